/-
  The walk through the law UdfstringWidths.
-/
import Derived.Test.YtfdlnhflgiemiaaDoorL3
import Derived.Test.YtfdlnhflgiemiaaDoorUw
namespace Go.Proofs.YtfdlnhflgiemiaaDoor
open Go.RowKit

set_option maxHeartbeats 3200000 in
set_option maxRecDepth 100000 in
theorem law5_any (s : ByteArray) (w : World) (hT : Lib.Utf8Tabs 0 1 w) (hs : s.size ≤ 9223372036854775807) :
    Calls Tryd.prog 7 #[.string s] w fun e w' => e = .returned (.bool true) ∧ Below w.heap.size w w' := by
  have C0 := Lib.hid (awake_any w hT)
  have c1 := fun W h => compress_any s W h hs
  have HT := Lib.hid hT
  clear hT
  by_cases h1 : s.size ≤ 300
  case neg =>
    have h1' : (300 : Int) < (s.size : Int) := by omega
    clear c1
    go_enter Tryd.func7, Tryd.ntmps7
    go_wp2_with fail
    with_reducible refine C0.out.mono ?_
    rintro e w1 ⟨rfl, hb1⟩
    go_wp2_with fail
    go_ret
    exact ⟨rfl, hb1⟩
  have h1' : ¬ (300 : Int) < (s.size : Int) := by omega
  have hsl : s.data.toList.length ≤ 300 := by rw [Kit.len_size]; exact h1
  by_cases hc : (Cs.compressR s.data.toList).2 = 0
  case neg =>
    rw [Cs.compress_err3 hc hsl] at c1
    have C1 := Lib.hid c1
    clear c1 hc hsl
    go_enter Tryd.func7, Tryd.ntmps7
    go_wp2_with fail
    with_reducible refine C0.out.mono ?_
    rintro e w1 ⟨rfl, hb1⟩
    go_wp2_with fail
    with_reducible refine (C1.out _ (Kit.tabs_below HT.out hb1)).mono ?_
    rintro e w2 ⟨rfl, hb2⟩
    have hc2 := hb1.trans (hb2.mono hb1.size)
    go_wp2_with fail
    go_ret
    exact ⟨rfl, hc2⟩
  have h0 : (Cs.charsR s.data.toList).2 = 0 := by
    by_cases h : (Cs.charsR s.data.toList).2 = 0
    · exact h
    · rw [Cs.compressR_err h] at hc; exact absurd hc h
  obtain ⟨hl', hch⟩ := Cs.charsR_zero h0
  rw [Cs.compressR_ok hl' hch] at c1
  generalize (Cs.charsR s.data.toList).1 = cs at *
  have hcl := (Cs.chars_len hch).1
  have htc := Cs.text_chars hch
  have hall := Cs.chars_all hch
  clear hc h0 hl'
  by_cases hz : s.size = 0
  · have hcs : cs = [] := List.eq_nil_of_length_eq_zero (by rw [Kit.len_size] at hcl; omega)
    rw [hcs, show Cs.squeeze [] = [] from rfl] at c1
    have C1 := Lib.hid c1
    have he := Kit.is_empty s hz
    clear c1 hsl hcl htc hall hch hcs hz
    go_enter Tryd.func7, Tryd.ntmps7
    go_wp2_with fail
    with_reducible refine C0.out.mono ?_
    rintro e w1 ⟨rfl, hb1⟩
    go_wp2_with fail
    with_reducible refine (C1.out _ (Kit.tabs_below HT.out hb1)).mono ?_
    rintro e w2 ⟨rfl, hb2⟩
    have hc2 := hb1.trans (hb2.mono hb1.size)
    go_wp2_with fail
    go_ret
    exact ⟨rfl, hc2⟩
  have he := Kit.not_empty s (by omega)
  have hcs0 : cs.length ≠ 0 := by
    intro h
    have : cs = [] := List.eq_nil_of_length_eq_zero h
    rw [this] at htc
    have := congrArg List.length htc
    rw [Kit.len_size] at this
    simp [Cs.text] at this
    omega
  have h655 : ∀ c ∈ cs, c ≤ 65535 := fun c hc => by
    have := Cs.isChar_le (List.all_eq_true.1 hall c hc)
    omega
  have HCH := Lib.hid hch
  have C1 := Lib.hid c1
  have HCS0 := Lib.hid hcs0
  have H655 := Lib.hid h655
  rw [Kit.len_size] at hcl
  clear c1 hsl htc hall hch hz hcs0 h655
  go_enter Tryd.func7, Tryd.ntmps7
  go_wp2_with fail
  with_reducible refine C0.out.mono ?_
  rintro e w1 ⟨rfl, hb1⟩
  go_wp2_with fail
  with_reducible refine (C1.out _ (Kit.tabs_below HT.out hb1)).mono ?_
  rintro e w2 ⟨rfl, hb2⟩
  have hc2 := hb1.trans (hb2.mono hb1.size)
  clear hb1 hb2
  go_wp2_with fail
  go_loopw [5] (fun wv wr => ∃ j z : Nat, wr = w2.iter s (Cs.pos cs j) ∧ wv = .int .i64 z ∧ j ≤ cs.length ∧ Hid (z = Cs.wid (cs.take j))) (fun _ wr => s.size - wr.iterPos w2.heap.size)
  case atStart => exact ⟨0, 1, by rw [Cs.pos_zero], rfl, by omega, Lib.hid rfl⟩
  case round =>
    obtain ⟨j, z, rfl, rfl, hj, HZ⟩ := hrel
    by_cases hlt : j < cs.length
    · obtain ⟨hd1, hd2, hd3⟩ := Cs.decode_pos HCH.out hlt
      have hnx : ∀ ty, (Instr.next (.pointer (some ⟨w2.heap.size, 0, none⟩)) true ty).run Tryd.prog (w2.iter s (Cs.pos cs j)) = _ := fun ty => run_next_any w2 s (Cs.pos cs j) ty hd2
      rw [hd1] at hnx
      dsimp only at hnx
      rw [show Cs.pos cs j + (Cs.pos cs (j + 1) - Cs.pos cs j) = Cs.pos cs (j + 1) by omega] at hnx
      have hst := Cs.wid_step cs j hlt
      have hy := H655.out (cs.getD j 0) (by simp [List.getD, hlt])
      generalize cs.getD j 0 = y at *
      clear hd1
      by_cases hy2 : y ≤ 255
      · have hy' : ¬ (255 : Int) < (y : Int) := by omega
        rw [if_pos hy2, ← HZ.out] at hst
        have HST := Lib.hid hst
        clear hst hy2
        go_wp2_with fail
        go_roundw
        case rel => exact ⟨j + 1, z, rfl, rfl, by omega, Lib.hid HST.out.symm⟩
        case measure => simp; omega
      · have hy' : (255 : Int) < (y : Int) := by omega
        rw [if_neg hy2] at hst
        have HST := Lib.hid hst
        clear hst hy2
        go_wp2_with fail
        go_roundw
        case rel => exact ⟨j + 1, 2, rfl, rfl, by omega, Lib.hid HST.out.symm⟩
        case measure => simp; omega
    · obtain rfl : j = cs.length := by omega
      have hnx : ∀ ty, (Instr.next (.pointer (some ⟨w2.heap.size, 0, none⟩)) true ty).run Tryd.prog (w2.iter s (Cs.pos cs cs.length)) = _ := fun ty => run_next_end w2 s (Cs.pos cs cs.length) ty (by rw [Cs.pos_end HCH.out]; omega)
      have hzw := HZ.out
      rw [List.take_length] at hzw
      have hz12 : z = 1 ∨ z = 2 := by rw [hzw]; exact Cs.wid_or cs
      have hrc := fun W => Tryd.utf8_RuneCountInString s W (by omega)
      rw [Cs.rune_count HCH.out] at hrc
      have HRC := Lib.hid hrc
      have HZW := Lib.hid hzw
      have hbi : Below w.heap.size w (w2.iter s (Cs.pos cs cs.length)) := hc2.alloc hc2.size _
      clear hrc hzw HZ
      rcases hz12 with rfl | rfl
      · have hq := Cs.squeeze_one HCS0.out HZW.out.symm
        generalize hd : Cs.squeeze cs = d at *
        obtain ⟨hql, hq0, hqj⟩ := hq
        have hdl : (⟨d.toArray⟩ : ByteArray).size = d.length := lb_size d
        have b0 := Kit.byt_get ⟨d.toArray⟩ 0 (by rw [hdl]; omega)
        have HQJ := Lib.hid hqj
        simp only at b0
        rw [hq0] at b0
        clear hqj hq0 hd
        have hql1 : ((d.length : Nat) : Int) = 1 + (cs.length : Int) := by omega
        go_wp2_with fail
        with_reducible refine (HRC.out _).mono ?_
        rintro e w5 ⟨rfl, ps, hw5⟩
        have hb5 : Below w.heap.size w w5 := by
          rw [hw5]
          exact hbi.alloc hbi.size _
        clear hw5
        go_wp2_with fail
        go_loopw [8] (fun iv wr => ∃ j : Nat, wr = w5.iter s (Cs.pos cs j) ∧ iv = .int .i64 ((1 + j : Nat) : Int) ∧ j ≤ cs.length) (fun _ wr => s.size - wr.iterPos w5.heap.size)
        case atStart => exact ⟨0, by rw [Cs.pos_zero], rfl, by omega⟩
        case round =>
          obtain ⟨j, rfl, rfl, hj⟩ := hrel
          by_cases hlt : j < cs.length
          · obtain ⟨hd1, hd2, hd3⟩ := Cs.decode_pos HCH.out hlt
            have hnx : ∀ ty, (Instr.next (.pointer (some ⟨w5.heap.size, 0, none⟩)) true ty).run Tryd.prog (w5.iter s (Cs.pos cs j)) = _ := fun ty => run_next_any w5 s (Cs.pos cs j) ty hd2
            rw [hd1] at hnx
            dsimp only at hnx
            rw [show Cs.pos cs j + (Cs.pos cs (j + 1) - Cs.pos cs j) = Cs.pos cs (j + 1) by omega] at hnx
            have hqj := HQJ.out j hlt
            have hy := H655.out (cs.getD j 0) (by simp [List.getD, hlt])
            have hi0 : 1 + j < (⟨d.toArray⟩ : ByteArray).size := by rw [hdl]; omega
            have bi := Kit.byt_get ⟨d.toArray⟩ (1 + j) hi0
            simp only at bi
            have l0 := Cs.byt_lt d (1 + j)
            rw [hqj] at bi
            clear hqj hd1
            generalize cs.getD j 0 = y at *
            have HDL := Lib.hid hdl
            have HI := Lib.hid hql1
            have hx0 : 1 + (j : Int) < (d.length : Int) := by omega
            clear hdl hql1 hql b0
            go_wp2_with fail
            go_roundw
            case rel => exact ⟨j + 1, rfl, congrArg (Value.int .i64) (by omega), by omega⟩
            case measure => simp; omega
          · obtain rfl : j = cs.length := by omega
            have hnx : ∀ ty, (Instr.next (.pointer (some ⟨w5.heap.size, 0, none⟩)) true ty).run Tryd.prog (w5.iter s (Cs.pos cs cs.length)) = _ := fun ty => run_next_end w5 s (Cs.pos cs cs.length) ty (by rw [Cs.pos_end HCH.out]; omega)
            have HI := Lib.hid hql1
            have HDL := Lib.hid hdl
            clear hql1 hql b0 hdl
            go_wp2_with fail
            go_ret
            exact ⟨rfl, hb5.alloc hb5.size _⟩
      · have hq := Cs.squeeze_two HCS0.out HZW.out.symm H655.out
        generalize hd : Cs.squeeze cs = d at *
        obtain ⟨hql, hq0, hqj⟩ := hq
        have hdl : (⟨d.toArray⟩ : ByteArray).size = d.length := lb_size d
        have b0 := Kit.byt_get ⟨d.toArray⟩ 0 (by rw [hdl]; omega)
        have HQJ := Lib.hid hqj
        simp only at b0
        rw [hq0] at b0
        clear hqj hq0 hd
        have hql1 : ((d.length : Nat) : Int) = 1 + 2 * (cs.length : Int) := by omega
        go_wp2_with fail
        with_reducible refine (HRC.out _).mono ?_
        rintro e w5 ⟨rfl, ps, hw5⟩
        have hb5 : Below w.heap.size w w5 := by
          rw [hw5]
          exact hbi.alloc hbi.size _
        clear hw5
        go_wp2_with fail
        go_loopw [8] (fun iv wr => ∃ j : Nat, wr = w5.iter s (Cs.pos cs j) ∧ iv = .int .i64 ((1 + 2 * j : Nat) : Int) ∧ j ≤ cs.length) (fun _ wr => s.size - wr.iterPos w5.heap.size)
        case atStart => exact ⟨0, by rw [Cs.pos_zero], rfl, by omega⟩
        case round =>
          obtain ⟨j, rfl, rfl, hj⟩ := hrel
          by_cases hlt : j < cs.length
          · obtain ⟨hd1, hd2, hd3⟩ := Cs.decode_pos HCH.out hlt
            have hnx : ∀ ty, (Instr.next (.pointer (some ⟨w5.heap.size, 0, none⟩)) true ty).run Tryd.prog (w5.iter s (Cs.pos cs j)) = _ := fun ty => run_next_any w5 s (Cs.pos cs j) ty hd2
            rw [hd1] at hnx
            dsimp only at hnx
            rw [show Cs.pos cs j + (Cs.pos cs (j + 1) - Cs.pos cs j) = Cs.pos cs (j + 1) by omega] at hnx
            have hqj := HQJ.out j hlt
            have hy := H655.out (cs.getD j 0) (by simp [List.getD, hlt])
            have hi0 : 1 + 2 * j < (⟨d.toArray⟩ : ByteArray).size := by rw [hdl]; omega
            have bi := Kit.byt_get ⟨d.toArray⟩ (1 + 2 * j) hi0
            simp only at bi
            have l0 := Cs.byt_lt d (1 + 2 * j)
            have hi1 : 1 + 2 * j + 1 < (⟨d.toArray⟩ : ByteArray).size := by rw [hdl]; omega
            have bi1 := Kit.byt_get ⟨d.toArray⟩ (1 + 2 * j + 1) hi1
            simp only at bi1
            have l1 := Cs.byt_lt d (1 + 2 * j + 1)
            have hqi : 256 * (Cs.byt d (1 + 2 * j) : Int) + (Cs.byt d (1 + 2 * j + 1) : Int) = (cs.getD j 0 : Nat) := by omega
            clear hqj hd1
            generalize cs.getD j 0 = y at *
            generalize Cs.byt d (1 + 2 * j) = z0 at *
            generalize Cs.byt d (1 + 2 * j + 1) = z1 at *
            have hne : ((256 * (z0 : Int) + (z1 : Int)) != (y : Int)) = false := by rw [bne_eq_false_iff_eq]; exact hqi
            clear hqi
            have HDL := Lib.hid hdl
            have HI := Lib.hid hql1
            have hx0 : 1 + 2 * (j : Int) < (d.length : Int) := by omega
            have hx1 : 1 + 2 * (j : Int) + 1 < (d.length : Int) := by omega
            clear hdl hql1 hql b0
            go_wp2_with fail
            go_roundw
            case rel => exact ⟨j + 1, rfl, congrArg (Value.int .i64) (by omega), by omega⟩
            case measure => simp; omega
          · obtain rfl : j = cs.length := by omega
            have hnx : ∀ ty, (Instr.next (.pointer (some ⟨w5.heap.size, 0, none⟩)) true ty).run Tryd.prog (w5.iter s (Cs.pos cs cs.length)) = _ := fun ty => run_next_end w5 s (Cs.pos cs cs.length) ty (by rw [Cs.pos_end HCH.out]; omega)
            have HI := Lib.hid hql1
            have HDL := Lib.hid hdl
            clear hql1 hql b0 hdl
            go_wp2_with fail
            go_ret
            exact ⟨rfl, hb5.alloc hb5.size _⟩
end Go.Proofs.YtfdlnhflgiemiaaDoor
