/-
  The walk through the law CharsetTexts.
-/
import Derived.Test.YtdcknfdileomoaaDoorAx
import Derived.Test.YtdcknfdileomoaaDoorG7
import Derived.Test.YtdcknfdileomoaaDoorR17b
namespace Go.Proofs.YtdcknfdileomoaaDoor
open Go.RowKit

set_option maxHeartbeats 6400000 in
set_option maxRecDepth 100000 in
theorem law1_any (s : ByteArray) (v : Value) (zs : List Int) (w : World) (hT : Lib.Utf8Tabs 1 2 w) (hs : s.size ≤ 9223372036854775807) (hr : Kit.Row w v (Kit.izs zs)) (hz : ∀ z ∈ zs, (Lit.int .i64 z).wf = true) :
    Calls Tryd.prog 3 #[.string s, v] w fun e w' => e = .returned (.bool true) ∧ Below w.heap.size w w' := by
  have hzb : ∀ z ∈ zs, -9223372036854775808 ≤ z ∧ z ≤ 9223372036854775807 := fun z h => bounds_i64 (hz z h)
  have C0 := Lib.hid (awake_any w hT)
  have HT := Lib.hid hT
  have c1 := fun W h => characters_any s W h hs
  have c2 := fun W => rCharacters_any s W hs
  have c3 := fun W h => text_any v zs W h hzb
  have c4 := fun W h => rText_any v zs W h hzb
  generalize (Cs.charsR s.data.toList).1 = cs at c1 c2
  generalize (Cs.charsR s.data.toList).2 = er at c1 c2
  generalize Cs.textR zs = tx at c3 c4
  have c5 : ∀ v1 v2 W, Kit.Row W v1 (Kit.izs (cs.map fun (n : Nat) => (n : Int))) → Kit.Row W v2 (Kit.izs (cs.map fun (n : Nat) => (n : Int))) → Calls Tryd.prog 16 #[v1, v2] W fun e w' => e = .returned (.bool true) ∧ Below W.heap.size W w' := fun v1 v2 W r1 r2 => by
    have := equal_any v1 v2 _ _ W r1 r2
    rw [decide_eq_true rfl] at this
    exact this
  have hv : ∃ A c, v = .slice A zs.length c := by
    obtain ⟨A, c, e, _⟩ := hr
    rw [Kit.izs_length] at e
    exact ⟨A, c, e⟩
  obtain ⟨A, c, rfl⟩ := hv
  have hlen : zs.length ≤ 9223372036854775807 := by
    obtain ⟨A', c', he, h1, h2, _⟩ := hr
    rw [Kit.izs_length] at h1
    unfold maxLen at h2
    omega
  have C1 := Lib.hid c1; have C2 := Lib.hid c2; have C3 := Lib.hid c3; have C4 := Lib.hid c4; have C5 := Lib.hid c5
  have HROW := Lib.hid hr
  clear c1 c2 c3 c4 c5 hT hr hz hzb
  by_cases hg : 300 < s.size ∧ s.size ≤ 65536
  · obtain ⟨h1, h2⟩ := hg
    have h1' : (300 : Int) < (s.size : Int) := by omega
    have h2' : (s.size : Int) ≤ 65536 := by omega
    go_enter Tryd.func3, Tryd.ntmps3
    go_wp2_with fail
    with_reducible refine C0.out.mono ?_
    rintro e w1 ⟨rfl, hb1⟩
    go_wp2_with fail
    go_ret
    exact ⟨rfl, hb1⟩
  have hg' : (¬ (300 : Int) < (s.size : Int) ∧ True) ∨ ((65536 : Int) < (s.size : Int) ∧ (300 : Int) < (s.size : Int)) := by
    by_cases h : s.size ≤ 300
    · exact .inl ⟨by omega, trivial⟩
    · exact .inr ⟨by omega, by omega⟩
  clear hg
  by_cases hk : 300 < zs.length
  · have k1 : (300 : Int) < (zs.length : Int) := by omega
    rcases hg' with ⟨g, g'⟩ | ⟨g, g'⟩
    all_goals
      go_enter Tryd.func3, Tryd.ntmps3
      go_wp2_with fail
      with_reducible refine C0.out.mono ?_
      rintro e w1 ⟨rfl, hb1⟩
      go_wp2_with fail
      go_ret
      exact ⟨rfl, hb1⟩
  have k1 : ¬ (300 : Int) < (zs.length : Int) := by omega
  rcases hg' with ⟨g, g'⟩ | ⟨g, g'⟩
  all_goals
    go_enter Tryd.func3, Tryd.ntmps3
    go_wp2_with fail
    with_reducible refine C0.out.mono ?_
    rintro e w1 ⟨rfl, hb1⟩
    go_wp2_with fail
    with_reducible refine (C1.out _ (Kit.tabs_below HT.out hb1)).mono ?_
    rintro e w2 ⟨v1, rfl, hown1, hb2⟩
    have hc2 := hb1.trans (hb2.mono hb1.size)
    have hrow1 := Kit.Row.of_own hown1
    rw [Kit.ints_izs] at hrow1
    have HR1 := Lib.hid hrow1
    clear hown1 hrow1
    go_wp2_with fail
    with_reducible refine (C2.out _).mono ?_
    rintro e w3 ⟨v2, rfl, hown2, hb3⟩
    have hc3 := hc2.trans (hb3.mono hc2.size)
    have hrow2 := Kit.Row.of_own hown2
    rw [Kit.ints_izs] at hrow2
    have HR2 := Lib.hid hrow2
    have HQ1 := Lib.hid (HR1.out.below hb3)
    clear hown2 hrow2
    go_wp2_with fail
    with_reducible refine (C3.out _ (HROW.out.below hc3)).mono ?_
    rintro e w4 ⟨rfl, hb4⟩
    have hc4 := hc3.trans (hb4.mono hc3.size)
    go_wp2_with fail
    with_reducible refine (C4.out _ (HROW.out.below hc4)).mono ?_
    rintro e w5 ⟨rfl, hb5⟩
    have hc5 := hc4.trans (hb5.mono hc4.size)
    have HA := Lib.hid ((HQ1.out.below hb4).below hb5)
    have HB := Lib.hid ((HR2.out.below hb4).below hb5)
    go_wp2_with fail
    with_reducible refine (C5.out _ _ _ HA.out HB.out).mono ?_
    rintro e w6 ⟨rfl, hb6⟩
    have hc6 := hc5.trans (hb6.mono hc5.size)
    go_wp2_with fail
    go_ret
    exact ⟨rfl, hc6⟩
end Go.Proofs.YtdcknfdileomoaaDoor
