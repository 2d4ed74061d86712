/-
  The walk through volumeseq.ParseFileSet.
-/
import Derived.Test.YthkppbimkjmbnaaGreatDoorZh
import Derived.Test.YthkppbimkjmbnaaGreatDoorZX
import Derived.Test.YthkppbimkjmbnaaGreatDoorZd
import Derived.Test.YthkppbimkjmbnaaGreatDoorZk
import Derived.Test.YthkppbimkjmbnaaGreatDoorZm
import Derived.Test.YthkppbimkjmbnaaGreatDoorZK
import Derived.Test.YthkppbimkjmbnaaGreatDoorZc
namespace Go.Proofs.YthkppbimkjmbnaaGreatDoor
open Go.RowKit
open Vs (bs by_)
namespace Vs
end Vs

end Go.Proofs.YthkppbimkjmbnaaGreatDoor

/-
  The walk through the reference's Dstring.
-/
namespace Go.Proofs.YthkppbimkjmbnaaGreatDoor
open Go.RowKit

set_option maxHeartbeats 1600000 in
set_option maxRecDepth 100000 in
/-- masterdiscref32.Dstring. -/
theorem vDstring_any (s : ByteArray) (size : Int) (w : World) (hs : s.size ≤ 9223372036854775807) :
    Calls Tryz.prog 155 #[.string s, .int .i64 size] w fun e w' => e = .returned (.tuple #[.string ⟨(Cs.dstrR s.data.toList size).1.toArray⟩, .int .i64 (Cs.dstrR s.data.toList size).2]) ∧ Below w.heap.size w w' := by
  have cC := rCompress_any s w hs
  by_cases hz : Cs.sized size = true
  case neg =>
    have hz' : Cs.sized size = false := by simpa using hz
    have HR := Lib.hid (show Cs.dstrR s.data.toList size = ([], 1) from if_pos hz')
    have h25 : ¬ (2 ≤ size ∧ size ≤ 255) := fun h => hz ((sized_iff _).2 h)
    clear cC hz hz'
    by_cases h2 : size < 2
    · clear h25
      go_enter Tryz.func155, Tryz.ntmps155
      go_wp2_with fail
      go_ret2
      rw [HR.out]
      exact ⟨rfl, Below.refl _ _⟩
    have h255 : 255 < size := by omega
    clear h25
    go_enter Tryz.func155, Tryz.ntmps155
    go_wp2_with fail
    go_ret2
    rw [HR.out]
    exact ⟨rfl, Below.refl _ _⟩
  case pos =>
  have hR1 : Cs.dstrR s.data.toList size = if ¬ (Cs.compressR s.data.toList).2 = 0 then ([], (Cs.compressR s.data.toList).2)
      else if size - 1 < (Cs.compressR s.data.toList).1.length then ([], 12)
      else ((Cs.compressR s.data.toList).1 ++ List.replicate (size.toNat - 1 - (Cs.compressR s.data.toList).1.length) 0 ++ [UInt8.ofNat (Cs.compressR s.data.toList).1.length], 0) := by
    unfold Cs.dstrR
    rw [if_neg (by rw [hz]; simp)]
  obtain ⟨hz2, hz255⟩ := (sized_iff _).1 hz
  generalize (Cs.compressR s.data.toList).1 = cd at *
  generalize (Cs.compressR s.data.toList).2 = er at *
  have CC := Lib.hid cC
  clear cC hz
  by_cases h0 : er = 0
  case neg =>
    rw [if_pos h0] at hR1
    have HR := Lib.hid hR1
    have h0' : (er != 0) = true := by rw [bne_iff_ne]; exact h0
    clear hR1 h0
    go_enter Tryz.func155, Tryz.ntmps155
    go_wp2_with fail
    with_reducible refine (CC.out).mono ?_
    rintro e w3 ⟨rfl, hb3⟩
    go_wp2_with fail
    go_ret2
    rw [HR.out]
    exact ⟨rfl, hb3⟩
  case pos =>
  subst h0
  rw [if_neg (by simp)] at hR1
  by_cases hf : size - 1 < cd.length
  · rw [if_pos hf] at hR1
    have HR := Lib.hid hR1
    clear hR1
    go_enter Tryz.func155, Tryz.ntmps155
    go_wp2_with fail
    with_reducible refine (CC.out).mono ?_
    rintro e w3 ⟨rfl, hb3⟩
    go_wp2_with fail
    go_ret2
    rw [HR.out]
    exact ⟨rfl, hb3⟩
  · rw [if_neg hf] at hR1
    have HR := Lib.hid hR1
    clear hR1
    have hcd : (cd.length : Int) ≤ 254 := by omega
    go_enter Tryz.func155, Tryz.ntmps155
    go_wp2_with fail
    with_reducible refine (CC.out).mono ?_
    rintro e w3 ⟨rfl, hb3⟩
    go_wp2_with fail
    have hcv : ∀ (W : World) (g : Nat), W.cell? ⟨g, 0, none⟩ = some (.int .u8 (cd.length : Int)) → (convert 126 9 (.slice (some ⟨g, 0, none⟩) 1 1)).run Tryz.prog W = .ok (.string ⟨#[UInt8.ofNat cd.length]⟩) W := fun W g h => Kit.str_cell (x := (cd.length : Int)) (by omega) (by omega) h
    have k1 : IntKind.i64.wrap (size - 1) = size - 1 := IntWalk.i64_in _ (by omega)
    have k2 : IntKind.i64.wrap (size - 1 - (cd.length : Int)) = size - 1 - (cd.length : Int) := IntWalk.i64_in _ (by omega)
    have k3 : IntKind.u8.wrap (cd.length : Int) = (cd.length : Int) := IntWalk.u8_in _ (by omega)
    have q1 : size - 1 - (cd.length : Int) ≤ 65536 := by omega
    have cZ := fun W => vZeros_any (size - 1 - (cd.length : Int)) q1 (by omega) W
    go_region_with (first | (go_at_call 81; refine (cZ _).mono ?_; rintro e w4 ⟨rfl, hb4⟩; have hbc := (Kit.bcell hb4).1))
    all_goals (try go_wp2_with fail)
    all_goals go_ret2
    all_goals rw [HR.out]
    all_goals refine ⟨?_, ?_⟩
    all_goals have hs3 := hb3.size
    all_goals have hs4 := hb4.size
    all_goals simp only [World.size_alloc, World.size_drew] at hs4
    all_goals first
      | (with_reducible refine congrArg Ending.returned ?_; simp [Act.put]; apply ByteArray.ext; simp [ByteArray.data_append])
      | (repeat (first
           | exact hb3
           | (refine Below.drew ?_)
           | (refine Below.trans ?_ (Below.mono hb4 (by first | omega | (simp; omega))))
           | (refine Below.alloc ?_ (by first | omega | (simp; omega)) _)))
end Go.Proofs.YthkppbimkjmbnaaGreatDoor

/-
  The walks through the reference's small functions.
-/
namespace Go.Proofs.YthkppbimkjmbnaaGreatDoor
open Go.RowKit
open Vs (bs by_)
namespace Vs
end Vs

set_option maxHeartbeats 1600000 in
set_option maxRecDepth 100000 in
/-- masterdiscref36.word. -/
theorem r36Word_any (n : Int) (w : World) : Calls Tryz.prog 48 #[.int .i64 n] w fun e w' => e = .returned (.bool (Vs.word n)) ∧ w = w' := by
  unfold Vs.word
  by_cases h1 : 0 ≤ n <;> by_cases h2 : n < 4294967296
  all_goals
    first | rw [decide_eq_true h1] | rw [decide_eq_false h1]
    first | rw [decide_eq_true h2] | rw [decide_eq_false h2]
    go_enter Tryz.func48, Tryz.ntmps48
    go_wp2
    go_ret
    exact ⟨rfl, rfl⟩

set_option maxHeartbeats 1600000 in
set_option maxRecDepth 100000 in
/-- masterdiscref36.time. -/
theorem r36Time_any (n : Int) (w : World) : Calls Tryz.prog 135 #[.int .i64 n] w fun e w' => e = .returned (.bool (Vs.isTime n)) ∧ w = w' := by
  unfold Vs.isTime
  by_cases h1 : 315532800 ≤ n <;> by_cases h2 : n ≤ 4102444799
  all_goals
    first | rw [decide_eq_true h1] | rw [decide_eq_false h1]
    first | rw [decide_eq_true h2] | rw [decide_eq_false h2]
    go_enter Tryz.func135, Tryz.ntmps135
    go_wp2
    go_ret
    exact ⟨rfl, rfl⟩

set_option maxHeartbeats 1600000 in
set_option maxRecDepth 100000 in
/-- masterdiscref36.span. -/
theorem r36Span_any (s c : Int) (w : World) : Calls Tryz.prog 49 #[.agg #[.int .i64 s, .int .i64 c]] w fun e w' => e = .returned (.bool (Vs.spanB s c)) ∧ Below w.heap.size w w' := by
  have CW := Lib.hid (fun W => r36Word_any s W)
  unfold Vs.spanB
  have HB := Lib.hid ((Below.refl w.heap.size w).alloc (Nat.le_refl _) (.cells #[.int .i64 s, .int .i64 c] 23))
  cases h0 : Vs.word s with
  | false =>
    rw [h0] at CW
    go_enter Tryz.func49, Tryz.ntmps49
    go_wp2_with fail
    with_reducible refine (CW.out _).mono ?_
    rintro e w2 ⟨rfl, hw⟩
    subst hw
    go_wp2_with fail
    go_ret
    exact ⟨rfl, HB.out⟩
  | true =>
  rw [h0] at CW
  by_cases h1 : 0 ≤ c <;> by_cases h2 : c < 2097152
  all_goals
    first
      | have d1 : decide (0 ≤ c) = true := decide_eq_true h1
      | have d1 : decide (0 ≤ c) = false := decide_eq_false h1
    first
      | have d2 : decide (c < 2097152) = true := decide_eq_true h2
      | have d2 : decide (c < 2097152) = false := decide_eq_false h2
    rw [d1, d2]
    clear h1 h2
    go_enter Tryz.func49, Tryz.ntmps49
    go_wp2_with fail
    with_reducible refine (CW.out _).mono ?_
    rintro e w2 ⟨rfl, hw⟩
    subst hw
    go_wp2_with fail
    go_ret
    exact ⟨rfl, HB.out⟩

set_option maxHeartbeats 1600000 in
set_option maxRecDepth 100000 in
/-- masterdiscref36.name. -/
theorem r36Name_any (s : ByteArray) (w : World) (hs : s.size ≤ 9223372036854775807) : Calls Tryz.prog 134 #[.string s] w fun e w' => e = .returned (.bool (Vs.namedB (by_ s))) ∧ Below w.heap.size w w' := by
  have CD := Lib.hid (vDstring_any s 128 w hs)
  unfold Vs.namedB
  change Hid (Calls _ _ _ _ fun e w' => e = .returned (.tuple #[_, .int .i64 (Cs.dstrR (by_ s) 128).2]) ∧ _) at CD
  by_cases h0 : s.size = 0
  · have e1 := Kit.is_empty s h0
    have hem : (by_ s).isEmpty = true := by show (s.data.toList).isEmpty = _; rw [← Lib.toList_data]; exact e1
    rw [hem]
    clear hem h0
    generalize (⟨(Cs.dstrR s.data.toList 128).1.toArray⟩ : ByteArray) = o at *
    generalize (Cs.dstrR (by_ s) 128).2 = er at *
    go_enter Tryz.func134, Tryz.ntmps134
    go_wp2_with fail
    with_reducible refine CD.out.mono ?_
    rintro e w2 ⟨rfl, hb⟩
    go_wp2_with fail
    go_ret
    exact ⟨rfl, hb⟩
  · have e1 := Kit.not_empty s (by omega)
    have hem : (by_ s).isEmpty = false := by show (s.data.toList).isEmpty = _; rw [← Lib.toList_data]; exact e1
    rw [hem]
    clear h0 hem
    by_cases h : (Cs.dstrR (by_ s) 128).2 = 0
    · rw [h] at CD
      rw [decide_eq_true h]
      clear h
      generalize (⟨(Cs.dstrR s.data.toList 128).1.toArray⟩ : ByteArray) = o at *
      go_enter Tryz.func134, Tryz.ntmps134
      go_wp2_with fail
      with_reducible refine CD.out.mono ?_
      rintro e w2 ⟨rfl, hb⟩
      go_wp2_with fail
      go_ret
      exact ⟨rfl, hb⟩
    · rw [decide_eq_false h]
      have he : ((Cs.dstrR (by_ s) 128).2 == 0) = false := by rw [beq_eq_false_iff_ne]; exact h
      clear h
      generalize (⟨(Cs.dstrR s.data.toList 128).1.toArray⟩ : ByteArray) = o at *
      generalize (Cs.dstrR (by_ s) 128).2 = er at *
      go_enter Tryz.func134, Tryz.ntmps134
      go_wp2_with fail
      with_reducible refine CD.out.mono ?_
      rintro e w2 ⟨rfl, hb⟩
      go_wp2_with fail
      go_ret
      exact ⟨rfl, hb⟩

set_option maxHeartbeats 1600000 in
set_option maxRecDepth 100000 in
/-- masterdiscref36.dstring. -/
theorem r36Dstring_any (s : ByteArray) (a k : Nat) (A K : Int) (hA : A = (a : Int)) (hK : K = (k : Int)) (ha : a + k ≤ s.size) (hs : s.size ≤ 1000000) (w : World) :
    Calls Tryz.prog 88 #[.string s, .int .i64 A, .int .i64 K] w fun e w' => e = .returned (.tuple #[.string (bs (Cs.parseR (Vs.sl (by_ s) a k)).1), .bool (decide ((Cs.parseR (Vs.sl (by_ s) a k)).2 = 0))]) ∧ Below w.heap.size w w' := by
  subst hA hK
  obtain ⟨x, hx⟩ : ∃ x, s.extract a (a + k) = x := ⟨_, rfl⟩
  have hb : by_ x = Vs.sl (by_ s) a k := by rw [← hx, Vs.bs_ext, Nat.add_sub_cancel_left]; rfl
  have CP := Lib.hid (fun W => (show Calls Tryz.prog 144 #[.string x] W fun e w' => e = .returned (.tuple #[.string (bs (Cs.parseR (by_ x)).1), .int .i64 (Cs.parseR (by_ x)).2]) ∧ Below W.heap.size W w' from vParse_any x W (by rw [← hx, ByteArray.size_extract]; omega)))
  rw [hb] at CP
  clear hb
  generalize Cs.parseR (Vs.sl (by_ s) a k) = pr at *
  obtain ⟨p, er⟩ := pr
  simp only [] at *
  generalize bs p = q at *
  obtain ⟨B, hB⟩ : ∃ B : Bool, (er == 0) = B := ⟨_, rfl⟩
  have HD := Lib.hid (show decide (er = 0) = B by rw [← hB]; by_cases e : er = 0 <;> simp [e])
  have ha1 : (a : Int) + (k : Int) ≤ (s.size : Int) := by omega
  have ha2 : (s.size : Int) ≤ 1000000 := by omega
  rw [HD.out]
  clear HD ha hs
  go_enter Tryz.func88, Tryz.ntmps88
  go_wp2_with fail
  with_reducible refine (CP.out _).mono ?_
  rintro e w2 ⟨rfl, hb2⟩
  go_wp2_with fail
  go_ret2
  first | exact ⟨rfl, hb2⟩ | (rw [hB]; exact ⟨rfl, hb2⟩)

set_option maxHeartbeats 1600000 in
set_option maxRecDepth 100000 in
/-- masterdiscref36.readStamp. -/
theorem r36ReadStamp_any (s : ByteArray) (a : Nat) (A : Int) (hA : A = (a : Int)) (ha : a + 12 ≤ s.size) (hs : s.size ≤ 1000000) (w : World) :
    Calls Tryz.prog 89 #[.string s, .int .i64 A] w fun e w' => e = .returned (.tuple #[.int .i64 (Vs.readSR (Vs.sl (by_ s) a 12)).1.1, .bool (decide ((Vs.readSR (Vs.sl (by_ s) a 12)).2 = 0))]) ∧ Below w.heap.size w w' := by
  subst hA
  obtain ⟨x, hx⟩ : ∃ x, s.extract a (a + 12) = x := ⟨_, rfl⟩
  have hb : by_ x = Vs.sl (by_ s) a 12 := by rw [← hx, Vs.bs_ext, Nat.add_sub_cancel_left]; rfl
  have CP := Lib.hid (fun W => r16ReadStamp_any x W (by rw [← hx, ByteArray.size_extract]; omega))
  rw [hb] at CP
  clear hb
  generalize Vs.readSR (Vs.sl (by_ s) a 12) = pr at *
  obtain ⟨⟨t, zo⟩, er⟩ := pr
  simp only [] at *
  obtain ⟨B, hB⟩ : ∃ B : Bool, (er == 0) = B := ⟨_, rfl⟩
  have HD := Lib.hid (show decide (er = 0) = B by rw [← hB]; by_cases e : er = 0 <;> simp [e])
  have ha1 : (a : Int) + 12 ≤ (s.size : Int) := by omega
  have ha2 : (s.size : Int) ≤ 1000000 := by omega
  rw [HD.out]
  clear HD ha hs
  go_enter Tryz.func89, Tryz.ntmps89
  go_wp2_with fail
  with_reducible refine (CP.out _).mono ?_
  rintro e w2 ⟨rfl, hb2⟩
  go_wp2_with fail
  go_ret2
  first | exact ⟨rfl, hb2⟩ | (rw [hB]; exact ⟨rfl, hb2⟩)
end Go.Proofs.YthkppbimkjmbnaaGreatDoor
