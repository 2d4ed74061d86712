/-
  The walk through the law CharsetOrder.
-/
import Derived.Test.YtdcknfdileomoaaDoorAx
import Derived.Test.YtdcknfdileomoaaDoorLo
import Derived.Test.YtdcknfdileomoaaDoorE2
namespace Go.Proofs.YtdcknfdileomoaaDoor
open Go.RowKit

theorem cmpL_nat : ∀ (cs ds : List Nat), cmpL (cs.map fun (n : Nat) => (n : Int)) (ds.map fun (n : Nat) => (n : Int)) = Cs.cmpN cs ds
  | [], [] => rfl
  | [], _ :: _ => rfl
  | _ :: _, [] => rfl
  | c :: cs, d :: ds => by
    rw [List.map_cons, List.map_cons, cmpL, Cs.cmpN, cmpL_nat cs ds]
    by_cases h : c < d
    · rw [if_pos h, if_pos (by omega)]
    · rw [if_neg h, if_neg (by omega)]
      by_cases h' : d < c
      · rw [if_pos h', if_pos (by omega)]
      · rw [if_neg h', if_neg (by omega)]

set_option maxHeartbeats 6400000 in
set_option maxRecDepth 100000 in
theorem law8_any (s t : ByteArray) (w : World) (hT : Lib.Utf8Tabs 1 2 w) (hs : s.size ≤ 9223372036854775807) (ht : t.size ≤ 9223372036854775807) :
    Calls Tryd.prog 10 #[.string s, .string t] w fun e w' => e = .returned (.bool true) ∧ Below w.heap.size w w' := by
  have C0 := Lib.hid (awake_any w hT)
  have HT := Lib.hid hT
  clear hT
  by_cases hg : 300 < s.size
  · have h1' : (300 : Int) < (s.size : Int) := by omega
    go_enter Tryd.func10, Tryd.ntmps10
    go_wp2_with fail
    with_reducible refine C0.out.mono ?_
    rintro e w1 ⟨rfl, hb1⟩
    go_wp2_with fail
    go_ret
    exact ⟨rfl, hb1⟩
  by_cases hg2 : 300 < t.size
  · have h2' : (300 : Int) < (t.size : Int) := by omega
    go_enter Tryd.func10, Tryd.ntmps10
    go_wp2_with fail
    with_reducible refine C0.out.mono ?_
    rintro e w1 ⟨rfl, hb1⟩
    go_wp2_with fail
    go_ret
    exact ⟨rfl, hb1⟩
  have h1' : ¬ (300 : Int) < (s.size : Int) := by omega
  have h2' : ¬ (300 : Int) < (t.size : Int) := by omega
  have hl : s.data.toList.length ≤ 65536 := by rw [Kit.len_size]; omega
  have hm : t.data.toList.length ≤ 65536 := by rw [Kit.len_size]; omega
  have c1 := fun W h => characters_any s W h hs
  have c2 := fun W h => characters_any t W h ht
  by_cases h0 : (Cs.charsR s.data.toList).2 = 0
  case neg =>
    generalize (Cs.charsR s.data.toList).1 = cs at *
    generalize (Cs.charsR s.data.toList).2 = er at *
    generalize (Cs.charsR t.data.toList).1 = ds at *
    generalize (Cs.charsR t.data.toList).2 = fr at *
    have h0' : (er != 0) = true := by rw [bne_iff_ne]; exact h0
    have C1 := Lib.hid c1; have C2 := Lib.hid c2
    clear c1 c2 h0 hl hm
    go_enter Tryd.func10, Tryd.ntmps10
    go_wp2_with fail
    with_reducible refine C0.out.mono ?_
    rintro e w1 ⟨rfl, hb1⟩
    go_wp2_with fail
    with_reducible refine (C1.out _ (Kit.tabs_below HT.out hb1)).mono ?_
    rintro e w2 ⟨v1, rfl, hown1, hb2⟩
    have hc2 := hb1.trans (hb2.mono hb1.size)
    have hrow1 := Kit.Row.of_own hown1
    rw [Kit.ints_izs] at hrow1
    have HR1 := Lib.hid hrow1
    clear hown1 hrow1
    go_wp2_with fail
    with_reducible refine (C2.out _ (Kit.tabs_below HT.out hc2)).mono ?_
    rintro e w3 ⟨v2, rfl, hown2, hb3⟩
    have hc3 := hc2.trans (hb3.mono hc2.size)
    have hrow2 := Kit.Row.of_own hown2
    rw [Kit.ints_izs] at hrow2
    have HR2 := Lib.hid hrow2
    have HQ1 := Lib.hid (HR1.out.below hb3)
    clear hown2 hrow2
    go_wp2_with fail
    go_ret
    exact ⟨rfl, hc3⟩
  case pos =>
  by_cases h3 : (Cs.charsR t.data.toList).2 = 0
  case neg =>
    simp only [h0] at c1
    generalize (Cs.charsR s.data.toList).1 = cs at *
    generalize (Cs.charsR t.data.toList).1 = ds at *
    generalize (Cs.charsR t.data.toList).2 = fr at *
    have h3' : (fr != 0) = true := by rw [bne_iff_ne]; exact h3
    have C1 := Lib.hid c1; have C2 := Lib.hid c2
    clear c1 c2 h0 h3 hl hm
    go_enter Tryd.func10, Tryd.ntmps10
    go_wp2_with fail
    with_reducible refine C0.out.mono ?_
    rintro e w1 ⟨rfl, hb1⟩
    go_wp2_with fail
    with_reducible refine (C1.out _ (Kit.tabs_below HT.out hb1)).mono ?_
    rintro e w2 ⟨v1, rfl, hown1, hb2⟩
    have hc2 := hb1.trans (hb2.mono hb1.size)
    have hrow1 := Kit.Row.of_own hown1
    rw [Kit.ints_izs] at hrow1
    have HR1 := Lib.hid hrow1
    clear hown1 hrow1
    go_wp2_with fail
    with_reducible refine (C2.out _ (Kit.tabs_below HT.out hc2)).mono ?_
    rintro e w3 ⟨v2, rfl, hown2, hb3⟩
    have hc3 := hc2.trans (hb3.mono hc2.size)
    have hrow2 := Kit.Row.of_own hown2
    rw [Kit.ints_izs] at hrow2
    have HR2 := Lib.hid hrow2
    have HQ1 := Lib.hid (HR1.out.below hb3)
    clear hown2 hrow2
    go_wp2_with fail
    go_ret
    exact ⟨rfl, hc3⟩
  case pos =>
  obtain ⟨_, hch⟩ := Cs.charsR_zero h0
  obtain ⟨_, hdh⟩ := Cs.charsR_zero h3
  simp only [h0] at c1
  simp only [h3] at c2
  generalize (Cs.charsR s.data.toList).1 = cs at *
  generalize (Cs.charsR t.data.toList).1 = ds at *
  obtain ⟨ho1, ho2⟩ := Cs.order_text hch hdh
  have c3 : ∀ W, Lib.Utf8Tabs 1 2 W → Calls Tryd.prog 27 #[.string s] W fun e w' => e = .returned (.tuple #[.string ⟨(cs.flatMap (Cs.cu 2)).toArray⟩, .int .i64 0]) ∧ Below W.heap.size W w' := fun W h => by
    have := ucs2_any s W h hs
    rw [Cs.ucs2_of hl hch] at this
    exact this
  have c4 : ∀ W, Lib.Utf8Tabs 1 2 W → Calls Tryd.prog 27 #[.string t] W fun e w' => e = .returned (.tuple #[.string ⟨(ds.flatMap (Cs.cu 2)).toArray⟩, .int .i64 0]) ∧ Below W.heap.size W w' := fun W h => by
    have := ucs2_any t W h ht
    rw [Cs.ucs2_of hm hdh] at this
    exact this
  have c5 : ∀ W, Calls Tryd.prog 38 #[.string s, .string t] W fun e w' => e = .returned (.int .i64 (Cs.cmpN cs ds)) ∧ w' = W := fun W => by
    have := Tryd.strings_Compare s t W
    rw [ho1] at this
    exact this
  have c6 : ∀ v1 v2 W, Kit.Row W v1 (Kit.izs (cs.map fun (n : Nat) => (n : Int))) → Kit.Row W v2 (Kit.izs (ds.map fun (n : Nat) => (n : Int))) → Calls Tryd.prog 39 #[v1, v2] W fun e w' => e = .returned (.int .i64 (Cs.cmpN cs ds)) ∧ Below W.heap.size W w' := fun v1 v2 W r1 r2 => by
    have := compare_any v1 v2 _ _ W r1 r2
    rw [cmpL_nat] at this
    exact this
  have c7 : ∀ W, Calls Tryd.prog 38 #[.string ⟨(cs.flatMap (Cs.cu 2)).toArray⟩, .string ⟨(ds.flatMap (Cs.cu 2)).toArray⟩] W fun e w' => e = .returned (.int .i64 (Cs.cmpN cs ds)) ∧ w' = W := fun W => by
    have := Tryd.strings_Compare ⟨(cs.flatMap (Cs.cu 2)).toArray⟩ ⟨(ds.flatMap (Cs.cu 2)).toArray⟩ W
    rw [show (⟨(cs.flatMap (Cs.cu 2)).toArray⟩ : ByteArray).data.toList = cs.flatMap (Cs.cu 2) from rfl, show (⟨(ds.flatMap (Cs.cu 2)).toArray⟩ : ByteArray).data.toList = ds.flatMap (Cs.cu 2) from rfl, ho2] at this
    exact this
  generalize Cs.cmpN cs ds = n at *
  generalize cs.flatMap (Cs.cu 2) = x at *
  generalize ds.flatMap (Cs.cu 2) = y at *
  have C1 := Lib.hid c1; have C2 := Lib.hid c2; have C3 := Lib.hid c3; have C4 := Lib.hid c4; have C5 := Lib.hid c5; have C6 := Lib.hid c6; have C7 := Lib.hid c7
  clear c1 c2 c3 c4 c5 c6 c7 ho1 ho2 h0 h3 hch hdh hl hm
  go_enter Tryd.func10, Tryd.ntmps10
  go_wp2_with fail
  with_reducible refine C0.out.mono ?_
  rintro e w1 ⟨rfl, hb1⟩
  go_wp2_with fail
  with_reducible refine (C1.out _ (Kit.tabs_below HT.out hb1)).mono ?_
  rintro e w2 ⟨v1, rfl, hown1, hb2⟩
  have hc2 := hb1.trans (hb2.mono hb1.size)
  have hrow1 := Kit.Row.of_own hown1
  rw [Kit.ints_izs] at hrow1
  have HR1 := Lib.hid hrow1
  clear hown1 hrow1
  go_wp2_with fail
  with_reducible refine (C2.out _ (Kit.tabs_below HT.out hc2)).mono ?_
  rintro e w3 ⟨v2, rfl, hown2, hb3⟩
  have hc3 := hc2.trans (hb3.mono hc2.size)
  have hrow2 := Kit.Row.of_own hown2
  rw [Kit.ints_izs] at hrow2
  have HR2 := Lib.hid hrow2
  have HQ1 := Lib.hid (HR1.out.below hb3)
  clear hown2 hrow2
  go_wp2_with fail
  with_reducible refine (C3.out _ (Kit.tabs_below HT.out hc3)).mono ?_
  rintro e w4 ⟨rfl, hb4⟩
  have hc4 := hc3.trans (hb4.mono hc3.size)
  go_wp2_with fail
  with_reducible refine (C4.out _ (Kit.tabs_below HT.out hc4)).mono ?_
  rintro e w5 ⟨rfl, hb5⟩
  have hc5 := hc4.trans (hb5.mono hc4.size)
  have HA := Lib.hid ((HQ1.out.below hb4).below hb5)
  have HB := Lib.hid ((HR2.out.below hb4).below hb5)
  go_wp2_with fail
  with_reducible refine (C5.out _).mono ?_
  rintro e w6 ⟨rfl, rfl⟩
  go_wp2_with fail
  with_reducible refine (C6.out _ _ _ HA.out HB.out).mono ?_
  rintro e w7 ⟨rfl, hb7⟩
  have hc7 := hc5.trans (hb7.mono hc5.size)
  go_wp2_with fail
  with_reducible refine (C7.out _).mono ?_
  rintro e w8 ⟨rfl, rfl⟩
  go_wp2_with fail
  go_ret
  exact ⟨rfl, hc7⟩
end Go.Proofs.YtdcknfdileomoaaDoor
