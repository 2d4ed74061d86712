/-
  The walk through the law CharsetReturns.
-/
import Derived.Test.YtdcknfdileomoaaDoorAx
import Derived.Test.YtdcknfdileomoaaDoorLu
namespace Go.Proofs.YtdcknfdileomoaaDoor
open Go.RowKit

theorem lb_size (l : List UInt8) : (⟨l.toArray⟩ : ByteArray).size = l.length := by simp [ByteArray.size]
namespace Cs
theorem from_len {u : List UInt8} (h : (fromR u).2 = 0) : (fromR u).1.length ≤ 3 * u.length := by
  obtain ⟨_, _, _, hf⟩ := fromR_zero h
  rw [hf]
  have hn := units_len u.length u (Nat.le_refl _)
  have ht := text_len (units 2 u)
  show (text (units 2 u)).length ≤ _
  omega
end Cs

set_option maxHeartbeats 6400000 in
set_option maxRecDepth 100000 in
theorem law5_any (s u : ByteArray) (w : World) (hT : Lib.Utf8Tabs 1 2 w) (hs : s.size ≤ 9223372036854775807) (hu : u.size ≤ 9223372036854775807) :
    Calls Tryd.prog 7 #[.string s, .string u] w fun e w' => e = .returned (.bool true) ∧ Below w.heap.size w w' := by
  have C0 := Lib.hid (awake_any w hT)
  have HT := Lib.hid hT
  clear hT
  by_cases hg : 300 < s.size
  · have h1' : (300 : Int) < (s.size : Int) := by omega
    go_enter Tryd.func7, Tryd.ntmps7
    go_wp2_with fail
    with_reducible refine C0.out.mono ?_
    rintro e w1 ⟨rfl, hb1⟩
    go_wp2_with fail
    go_ret
    exact ⟨rfl, hb1⟩
  by_cases hg2 : 300 < u.size
  · have h2' : (300 : Int) < (u.size : Int) := by omega
    go_enter Tryd.func7, Tryd.ntmps7
    go_wp2_with fail
    with_reducible refine C0.out.mono ?_
    rintro e w1 ⟨rfl, hb1⟩
    go_wp2_with fail
    go_ret
    exact ⟨rfl, hb1⟩
  have h1' : ¬ (300 : Int) < (s.size : Int) := by omega
  have h2' : ¬ (300 : Int) < (u.size : Int) := by omega
  have hl : s.data.toList.length ≤ 65536 := by rw [Kit.len_size]; omega
  have c1 := fun W h => characters_any s W h hs
  have c6 := fun W => from_any u W hu
  by_cases h0 : (Cs.charsR s.data.toList).2 = 0
  · obtain ⟨_, hch⟩ := Cs.charsR_zero h0
    have hall := Cs.chars_all hch
    have hcl := (Cs.chars_len hch).1
    rw [Kit.len_size] at hcl
    have htx := Cs.text_chars hch
    have htr := Cs.text_textR _ hall (by omega)
    have huc := Cs.ucs2_of hl hch
    have hfr := Cs.from_ucs2 hall (by omega)
    have hfl := Cs.flat_cu_len 2 (.inr rfl) (Cs.charsR s.data.toList).1
    simp only [h0] at c1
    have hsm : ∀ z ∈ (Cs.charsR s.data.toList).1.map (fun (n : Nat) => (n : Int)), -9223372036854775808 ≤ z ∧ z ≤ 9223372036854775807 := by
      intro z hz
      obtain ⟨n, hn, rfl⟩ := List.mem_map.1 hz
      have := Cs.allChars_small hall n hn
      omega
    generalize (Cs.charsR s.data.toList).1 = cs at *
    have c2 : ∀ v W, Kit.Row W v (Kit.izs (cs.map fun (n : Nat) => (n : Int))) → Calls Tryd.prog 14 #[v] W fun e w' => e = .returned (.tuple #[.string s, .int .i64 0]) ∧ Below W.heap.size W w' := fun v W hr => by
      have := text_any v _ W hr hsm
      rw [htr, htx, ← Kit.eta s] at this
      exact this
    have c3 : ∀ W, Lib.Utf8Tabs 1 2 W → Calls Tryd.prog 27 #[.string s] W fun e w' => e = .returned (.tuple #[.string ⟨(cs.flatMap (Cs.cu 2)).toArray⟩, .int .i64 0]) ∧ Below W.heap.size W w' := fun W h => by
      have := ucs2_any s W h hs
      rw [huc] at this
      exact this
    have c4 : ∀ W, Calls Tryd.prog 29 #[.string ⟨(cs.flatMap (Cs.cu 2)).toArray⟩] W fun e w' => e = .returned (.tuple #[.string s, .int .i64 0]) ∧ Below W.heap.size W w' := fun W => by
      have := from_any ⟨(cs.flatMap (Cs.cu 2)).toArray⟩ W (by rw [lb_size]; omega)
      rw [show (⟨(cs.flatMap (Cs.cu 2)).toArray⟩ : ByteArray).data.toList = cs.flatMap (Cs.cu 2) from rfl, hfr, htx, ← Kit.eta s] at this
      exact this
    generalize cs.flatMap (Cs.cu 2) = x at *
    have hxi : ((x.length : Nat) : Int) = 2 * (cs.length : Int) := by omega
    have C1 := Lib.hid c1; have C2 := Lib.hid c2; have C3 := Lib.hid c3; have C4 := Lib.hid c4
    clear c1 c2 c3 c4 hsm hall htx htr huc hfr hch h0 hl hfl
    by_cases h6 : (Cs.fromR u.data.toList).2 = 0
    · have hback := Cs.ucs2_from h6 (by rw [Kit.len_size]; omega)
      have htl := Cs.from_len h6
      rw [Kit.len_size] at htl
      have c7 : ∀ W, Lib.Utf8Tabs 1 2 W → Calls Tryd.prog 27 #[.string ⟨(Cs.fromR u.data.toList).1.toArray⟩] W fun e w' => e = .returned (.tuple #[.string u, .int .i64 0]) ∧ Below W.heap.size W w' := fun W h => by
        have := ucs2_any ⟨(Cs.fromR u.data.toList).1.toArray⟩ W h (by rw [lb_size]; omega)
        simp only [hback] at this
        rw [← Kit.eta u] at this
        exact this
      simp only [h6] at c6
      generalize (Cs.fromR u.data.toList).1 = t at *
      have C6 := Lib.hid c6; have C7 := Lib.hid c7
      clear c6 c7 h6 hback htl
      go_enter Tryd.func7, Tryd.ntmps7
      go_wp2_with fail
      with_reducible refine C0.out.mono ?_
      rintro e w1 ⟨rfl, hb1⟩
      go_wp2_with fail
      with_reducible refine (C1.out _ (Kit.tabs_below HT.out hb1)).mono ?_
      rintro e w2 ⟨v, rfl, hown, hb2⟩
      have hc2 := hb1.trans (hb2.mono hb1.size)
      have hrow := Kit.Row.of_own hown
      rw [Kit.ints_izs] at hrow
      obtain ⟨A, c, rfl⟩ : ∃ A c, v = .slice A cs.length c := by
        obtain ⟨A, c, e, _⟩ := hrow
        rw [Kit.izs_length, List.length_map] at e
        exact ⟨A, c, e⟩
      have HROW := Lib.hid hrow
      clear hown hrow
      go_wp2_with fail
      with_reducible refine (C2.out _ _ HROW.out).mono ?_
      rintro e w3 ⟨rfl, hb3⟩
      have hc3 := hc2.trans (hb3.mono hc2.size)
      go_wp2_with fail
      with_reducible refine (C3.out _ (Kit.tabs_below HT.out hc3)).mono ?_
      rintro e w4 ⟨rfl, hb4⟩
      have hc4 := hc3.trans (hb4.mono hc3.size)
      go_wp2_with fail
      with_reducible refine (C4.out _).mono ?_
      rintro e w5 ⟨rfl, hb5⟩
      have hc5 := hc4.trans (hb5.mono hc4.size)
      go_wp2_with fail
      with_reducible refine (C6.out _).mono ?_
      rintro e w6 ⟨rfl, hb6⟩
      have hc6 := hc5.trans (hb6.mono hc5.size)
      go_wp2_with fail
      with_reducible refine (C7.out _ (Kit.tabs_below HT.out hc6)).mono ?_
      rintro e w7 ⟨rfl, hb7⟩
      have hc7 := hc6.trans (hb7.mono hc6.size)
      go_wp2_with fail
      go_ret
      exact ⟨rfl, hc7⟩
    · generalize (Cs.fromR u.data.toList).1 = t at *
      generalize (Cs.fromR u.data.toList).2 = er2 at *
      have h6' : (er2 != 0) = true := by rw [bne_iff_ne]; exact h6
      have C6 := Lib.hid c6
      clear c6 h6
      go_enter Tryd.func7, Tryd.ntmps7
      go_wp2_with fail
      with_reducible refine C0.out.mono ?_
      rintro e w1 ⟨rfl, hb1⟩
      go_wp2_with fail
      with_reducible refine (C1.out _ (Kit.tabs_below HT.out hb1)).mono ?_
      rintro e w2 ⟨v, rfl, hown, hb2⟩
      have hc2 := hb1.trans (hb2.mono hb1.size)
      have hrow := Kit.Row.of_own hown
      rw [Kit.ints_izs] at hrow
      obtain ⟨A, c, rfl⟩ : ∃ A c, v = .slice A cs.length c := by
        obtain ⟨A, c, e, _⟩ := hrow
        rw [Kit.izs_length, List.length_map] at e
        exact ⟨A, c, e⟩
      have HROW := Lib.hid hrow
      clear hown hrow
      go_wp2_with fail
      with_reducible refine (C2.out _ _ HROW.out).mono ?_
      rintro e w3 ⟨rfl, hb3⟩
      have hc3 := hc2.trans (hb3.mono hc2.size)
      go_wp2_with fail
      with_reducible refine (C3.out _ (Kit.tabs_below HT.out hc3)).mono ?_
      rintro e w4 ⟨rfl, hb4⟩
      have hc4 := hc3.trans (hb4.mono hc3.size)
      go_wp2_with fail
      with_reducible refine (C4.out _).mono ?_
      rintro e w5 ⟨rfl, hb5⟩
      have hc5 := hc4.trans (hb5.mono hc4.size)
      go_wp2_with fail
      with_reducible refine (C6.out _).mono ?_
      rintro e w6 ⟨rfl, hb6⟩
      have hc6 := hc5.trans (hb6.mono hc5.size)
      go_wp2_with fail
      go_ret
      exact ⟨rfl, hc6⟩
  · generalize (Cs.charsR s.data.toList).1 = cs at *
    generalize (Cs.charsR s.data.toList).2 = er at *
    have h0' : (er == 0) = false := by rw [beq_eq_false_iff_ne]; exact h0
    have C1 := Lib.hid c1
    clear c1 h0 hl
    by_cases h6 : (Cs.fromR u.data.toList).2 = 0
    · have hback := Cs.ucs2_from h6 (by rw [Kit.len_size]; omega)
      have htl := Cs.from_len h6
      rw [Kit.len_size] at htl
      have c7 : ∀ W, Lib.Utf8Tabs 1 2 W → Calls Tryd.prog 27 #[.string ⟨(Cs.fromR u.data.toList).1.toArray⟩] W fun e w' => e = .returned (.tuple #[.string u, .int .i64 0]) ∧ Below W.heap.size W w' := fun W h => by
        have := ucs2_any ⟨(Cs.fromR u.data.toList).1.toArray⟩ W h (by rw [lb_size]; omega)
        simp only [hback] at this
        rw [← Kit.eta u] at this
        exact this
      simp only [h6] at c6
      generalize (Cs.fromR u.data.toList).1 = t at *
      have C6 := Lib.hid c6; have C7 := Lib.hid c7
      clear c6 c7 h6 hback htl
      go_enter Tryd.func7, Tryd.ntmps7
      go_wp2_with fail
      with_reducible refine C0.out.mono ?_
      rintro e w1 ⟨rfl, hb1⟩
      go_wp2_with fail
      with_reducible refine (C1.out _ (Kit.tabs_below HT.out hb1)).mono ?_
      rintro e w2 ⟨v, rfl, _, hb2⟩
      have hc5 := hb1.trans (hb2.mono hb1.size)
      go_wp2_with fail
      with_reducible refine (C6.out _).mono ?_
      rintro e w6 ⟨rfl, hb6⟩
      have hc6 := hc5.trans (hb6.mono hc5.size)
      go_wp2_with fail
      with_reducible refine (C7.out _ (Kit.tabs_below HT.out hc6)).mono ?_
      rintro e w7 ⟨rfl, hb7⟩
      have hc7 := hc6.trans (hb7.mono hc6.size)
      go_wp2_with fail
      go_ret
      exact ⟨rfl, hc7⟩
    · generalize (Cs.fromR u.data.toList).1 = t at *
      generalize (Cs.fromR u.data.toList).2 = er2 at *
      have h6' : (er2 != 0) = true := by rw [bne_iff_ne]; exact h6
      have C6 := Lib.hid c6
      clear c6 h6
      go_enter Tryd.func7, Tryd.ntmps7
      go_wp2_with fail
      with_reducible refine C0.out.mono ?_
      rintro e w1 ⟨rfl, hb1⟩
      go_wp2_with fail
      with_reducible refine (C1.out _ (Kit.tabs_below HT.out hb1)).mono ?_
      rintro e w2 ⟨v, rfl, _, hb2⟩
      have hc5 := hb1.trans (hb2.mono hb1.size)
      go_wp2_with fail
      with_reducible refine (C6.out _).mono ?_
      rintro e w6 ⟨rfl, hb6⟩
      have hc6 := hc5.trans (hb6.mono hc5.size)
      go_wp2_with fail
      go_ret
      exact ⟨rfl, hc6⟩
end Go.Proofs.YtdcknfdileomoaaDoor
