/-
  The walks through charset (layer 17): what its functions return, for any string.
-/
import Derived.Test.YtfdlnhflgiemiaaDoorKit
import Derived.Test.YtfdlnhflgiemiaaDoorChars
import Derived.Test.YtfdlnhflgiemiaaDoorShelf
import Derived.Test.YtfdlnhflgiemiaaDoorShelfB
namespace Go.Proofs.YtfdlnhflgiemiaaDoor
open Go.RowKit

theorem intInfo : (Tryd.prog.info? 3).map (fun i => (i.zero, i.size, i.bytes)) = some (some (.int .i64 0), 1, 8) := by kernel_rfl
theorem byteInfo : (Tryd.prog.info? 5).map (fun i => (i.zero, i.size, i.bytes)) = some (some (.int .u8 0), 1, 1) := by kernel_rfl

set_option maxHeartbeats 400000 in
/-- charset.character. -/
theorem character_any (n : Int) (w : World) : Calls Tryd.prog 56 #[.int .i64 n] w fun e w' => e = .returned (.bool (Cs.isChar n)) ∧ w = w' := by
  by_cases h1 : 32 ≤ n <;> by_cases h2 : n ≤ 65533 <;> by_cases h3 : n < 55296 <;> by_cases h4 : 57343 < n
  all_goals
    go_enter Tryd.func56, Tryd.ntmps56
    go_wp2
    go_ret
    refine ⟨congrArg (fun b => Ending.returned (.bool b)) ?_, rfl⟩
    unfold Cs.isChar
    simp [*]

theorem decode_eq (s : ByteArray) (h : 0 < s.size) : Lib.decodeGo s = Cs.raw s.data.toList := by
  unfold Lib.decodeGo Cs.raw
  rw [if_neg (by omega), Lib.decode_at]
  have e : ∀ i, (s.get! i).toNat = Cs.byt s.data.toList i := by
    intro i
    unfold Cs.byt
    congr 1
    by_cases hi : i < s.size
    · rw [Utf8W.get!_of_lt s i hi]
      have hi' : i < s.data.size := hi
      simp only [List.getD, Array.getElem?_toList, Array.getElem?_eq_getElem hi']
      rfl
    · have hi' : ¬ i < s.data.size := by simpa using hi
      cases s with
      | mk d =>
        show d[i]! = _
        simp at hi'
        simp [List.getD, hi']
        rfl
  simp only [e, Nat.sub_zero]
  congr 1

theorem go_of_dec (s : ByteArray) (h0 : 0 < s.size) {n k : Nat} (hd : Cs.dec s.data.toList = some (n, k)) : Lib.decodeGo s = (n, k) := by
  rw [decode_eq s h0]
  unfold Cs.dec at hd
  split at hd
  · exact Option.some.inj hd
  · cases hd

theorem len0 (s : ByteArray) (h : ¬ 0 < s.size) : s.data.toList.length = 0 := by
  have : s.data.toList.length = s.size := by simp
  omega

theorem extract_size (s : ByteArray) (k : Nat) : (s.extract k s.size).size = s.size - k := by simp

set_option maxHeartbeats 1600000 in
set_option maxRecDepth 100000 in
/-- charset.Characters. -/
theorem characters_any (s : ByteArray) (w : World) (hT : Lib.Utf8Tabs 0 1 w) (hs : s.size ≤ 9223372036854775807) :
    Calls Tryd.prog 31 #[.string s] w fun e w' => ∃ v, e = .returned (.tuple #[v, .int .i64 (Cs.charsR s.data.toList).2]) ∧ w'.ownsRow w.heap.size 3 1 v (Cs.charsR s.data.toList).1.length (Kit.ints (Cs.charsR s.data.toList).1) ∧ Below w.heap.size w w' := by
  by_cases hl : s.size ≤ 65536
  case neg =>
    rw [Cs.charsR_long (by simp; omega)]
    have hl' : (65536 : Int) < (s.size : Int) := by omega
    go_enter Tryd.func31, Tryd.ntmps31
    go_wp2_with fail
    go_ret2
    exact ⟨_, rfl, World.ownsRow_nil _ _ _ _, Below.refl _ _⟩
  case pos =>
  have HT := Lib.hid hT
  clear hT
  obtain ⟨i0, hi, hz0, hz1, hz2⟩ := info_parts intInfo
  have hl' : ¬ (65536 : Int) < (s.size : Int) := by omega
  go_enter Tryd.func31, Tryd.ntmps31
  go_wp2_with (at_make; refine wpList_make_own _ rfl _ _ 41 rfl w.heap.size 3 i0 (.int .i64 0) 1 Tryd.underlying41 hi hz0 hz1 _ _ _ s.size rfl rfl (by omega) ?_ ?_ ?_ ?_)
  case refine_1 => omega
  case refine_2 => unfold maxLen; omega
  case refine_4 =>
   intro w1 hown hgrow
   have hb1 : Below w.heap.size w w1 := (Below.refl _ _).grown hgrow (Nat.le_refl _) (fun k hk => by cases hk)
   go_wp2_with fail
   go_loopw [0, 4] (fun sv v wr => ∃ (rest : ByteArray) (acc : List Nat), sv = .string rest ∧ Cs.Read s.data.toList acc rest.data.toList ∧ acc.length + rest.size ≤ s.size ∧ wr.ownsRow w.heap.size 3 1 v acc.length (Kit.ints acc) ∧ Below w.heap.size w wr)
     (fun sv _ _ => Kit.strLen sv)
   case atStart => exact ⟨s, [], rfl, Cs.Read.start _, by simp, hown, hb1⟩
   case round =>
    obtain ⟨rest, acc, rfl, hrd, hlen, hown, hbw⟩ := hrel
    have HRD := Lib.hid hrd
    have HOWN := Lib.hid hown
    clear hrd hown hb1 hgrow
    have hsz := hbw.size
    by_cases h0 : 0 < rest.size
    · have h00 : 0 < rest.data.toList.length := by simpa using h0
      have h0' : (0 : Int) < (rest.size : Int) := by omega
      have cD := Tryd.utf8_DecodeRuneInString rest wr (Kit.tabs_below HT.out hbw)
      cases hd : Cs.dec rest.data.toList with
      | some p =>
        obtain ⟨n, k⟩ := p
        have hw := Cs.dec_width h00 hd
        rw [go_of_dec rest h0 hd] at cD
        have cC := fun w => character_any (n : Int) w
        rw [hw.2.2] at cC
        have CD := Lib.hid cD
        have CC := Lib.hid cC
        have hg := Cs.dec_char hd
        have hkr : k ≤ rest.size := by have := hw.2.1; simp at this; omega
        have hk0 : 1 ≤ k := hw.1
        have hk1 : (k : Int) ≤ (rest.size : Int) := by omega
        have hn1 : (n : Int) ≤ 65533 := by omega
        have HD := Lib.hid hd
        clear hw hd cD cC
        have e12 : ((n : Int) == 65533) = false ∨ (((n : Int) == 65533) = true ∧ ((k : Int) == 1) = false) := by
          by_cases h65 : n = 65533
          · right; simp [h65]; omega
          · left; simp; omega
        clear hg
        rcases e12 with e1 | ⟨e1, e2⟩
        all_goals
          go_wp2_with fail
          with_reducible refine CD.out.mono ?_
          rintro e w2 ⟨rfl, hb2⟩
          have HB2 := Lib.hid hb2
          have hsz2 := hb2.size
          clear hb2
          go_wp2_with fail
          with_reducible refine (CC.out _).mono ?_
          rintro e w3 ⟨rfl, rfl⟩
          go_wp2_with (at_builtin; refine Kit.push rfl _ _ 41 rfl w.heap.size 3 i0 (.int .i64 0) 8 Tryd.underlying41 hi hz0 hz1 hz2 rfl _ _ _ rfl (Kit.own_below HOWN.out HB2.out) (Kit.ints [n]) 1 1 rfl rfl (Kit.one_i64 _) ?c1 ?c2 ?c3 ?_)
          case c1 => unfold maxLen; omega
          case c2 => omega
          case c3 => omega
          intro v' w4 hown' hb4
          have HOWN' := Lib.hid hown'
          clear hown'
          go_wp2_with fail
          go_roundw
          case rel =>
            exact ⟨rest.extract k rest.size, acc ++ [n], rfl, by rw [Lib.extract_to_end]; exact HRD.out.step h00 HD.out, by simp; omega, by
              have h := HOWN'.out
              rw [← Kit.ints_append] at h
              simpa using h, hbw.trans ((HB2.out.mono hsz).trans hb4)⟩
          case measure => simp [Kit.strLen]; omega
      | none =>
        have hch := HRD.out.fail h00 hd
        have HR := Lib.hid (Cs.charsR_none (by simpa using hl) hch)
        have hgood : Cs.good (Cs.raw rest.data.toList) = false := by
          unfold Cs.dec at hd
          split at hd
          · cases hd
          · rename_i hg
            exact Bool.eq_false_iff.2 hg
        rw [decode_eq rest h0] at cD
        have hwd := Cs.raw_width rest.data.toList h00
        generalize Cs.raw rest.data.toList = r at cD hgood hwd
        obtain ⟨n, k⟩ := r
        simp only at cD hwd
        have hn1 : (n : Int) ≤ 1114111 := by omega
        have hn0 : (0 : Int) ≤ n := by omega
        have CD := Lib.hid cD
        have cC := fun w => character_any (n : Int) w
        by_cases hic : Cs.isChar (n : Int) = true
        · rw [hic] at cC
          have CC := Lib.hid cC
          have hnk : n = 65533 ∧ k = 1 := by
            unfold Cs.good at hgood
            simp only [hic, Bool.true_and, Bool.not_eq_false', Bool.and_eq_true, beq_iff_eq] at hgood
            exact hgood
          have e1 : ((n : Int) == 65533) = true := by simp; omega
          have e2 : ((k : Int) == 1) = true := by simp; omega
          clear cC hic hgood hwd cD hd hch hnk
          go_wp2_with fail
          with_reducible refine CD.out.mono ?_
          rintro e w2 ⟨rfl, hb2⟩
          go_wp2_with fail
          with_reducible refine (CC.out _).mono ?_
          rintro e w3 ⟨rfl, rfl⟩
          go_wp2_with fail
          go_ret2
          rw [HR.out]
          exact ⟨_, rfl, World.ownsRow_nil _ _ _ _, hbw.trans (hb2.mono hsz)⟩
        · have hic' : Cs.isChar (n : Int) = false := by simpa using hic
          rw [hic'] at cC
          have CC := Lib.hid cC
          clear cC hic hic' hgood hwd cD hd hch
          go_wp2_with fail
          with_reducible refine CD.out.mono ?_
          rintro e w2 ⟨rfl, hb2⟩
          go_wp2_with fail
          with_reducible refine (CC.out _).mono ?_
          rintro e w3 ⟨rfl, rfl⟩
          go_wp2_with fail
          go_ret2
          rw [HR.out]
          exact ⟨_, rfl, World.ownsRow_nil _ _ _ _, hbw.trans (hb2.mono hsz)⟩
    · have h0' : ¬ (0 : Int) < (rest.size : Int) := by omega
      have hch := HRD.out.done (len0 rest h0)
      have HR := Lib.hid (Cs.charsR_some (by simpa using hl) hch)
      clear hch
      go_wp2_with fail
      go_ret2
      rw [HR.out]
      exact ⟨_, rfl, HOWN.out, hbw⟩
end Go.Proofs.YtfdlnhflgiemiaaDoor
