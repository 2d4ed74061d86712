/-
  The walk through masterdiscref17.Characters: the same result as the program's.
-/
import Derived.Test.YtfdlnhflgiemiaaDoorR17
namespace Go.Proofs.YtfdlnhflgiemiaaDoor
open Go.RowKit

set_option maxHeartbeats 1600000 in
set_option maxRecDepth 100000 in
/-- masterdiscref17.Characters. -/
theorem rCharacters_any (s : ByteArray) (w : World) (hs : s.size ≤ 9223372036854775807) :
    Calls Tryd.prog 34 #[.string s] w fun e w' => ∃ v, e = .returned (.tuple #[v, .int .i64 (Cs.charsR s.data.toList).2]) ∧ w'.ownsRow w.heap.size 3 1 v (Cs.charsR s.data.toList).1.length (Kit.ints (Cs.charsR s.data.toList).1) ∧ Below w.heap.size w w' := by
  by_cases hl : s.size ≤ 65536
  case neg =>
    rw [Cs.charsR_long (by simp; omega)]
    have hl' : (65536 : Int) < (s.size : Int) := by omega
    go_enter Tryd.func34, Tryd.ntmps34
    go_wp2_with fail
    go_ret2
    exact ⟨_, rfl, World.ownsRow_nil _ _ _ _, Below.refl _ _⟩
  case pos =>
  obtain ⟨i0, hi, hz0, hz1, hz2⟩ := info_parts intInfo
  have hl' : ¬ (65536 : Int) < (s.size : Int) := by omega
  go_enter Tryd.func34, Tryd.ntmps34
  go_wp2_with fail
  go_loopw [0, 4] (fun sv v wr => ∃ (rest : ByteArray) (acc : List Nat), sv = .string rest ∧ Cs.Read s.data.toList acc rest.data.toList ∧ acc.length + rest.size ≤ s.size ∧ wr.ownsRow w.heap.size 3 1 v acc.length (Kit.ints acc) ∧ Below w.heap.size w wr)
     (fun sv _ _ => Kit.strLen sv)
  case atStart => exact ⟨s, [], rfl, Cs.Read.start _, by simp, World.ownsRow_nil _ _ _ _, Below.refl _ _⟩
  case round =>
    obtain ⟨rest, acc, rfl, hrd, hlen, hown, hbw⟩ := hrel
    have HRD := Lib.hid hrd
    have HOWN := Lib.hid hown
    clear hrd hown
    have hsz := hbw.size
    by_cases h0 : 0 < rest.size
    · have h00 : 0 < rest.data.toList.length := by simpa using h0
      have h0' : (0 : Int) < (rest.size : Int) := by omega
      have cF := rFirst_any rest wr h0
      cases hd : Cs.dec rest.data.toList with
      | some p =>
        obtain ⟨n, k⟩ := p
        have hw := Cs.dec_width h00 hd
        rw [show Cs.fr rest.data.toList = (n, k) from Cs.fr_some hd] at cF
        have CF := Lib.hid cF
        have hg := Cs.dec_char hd
        have hkr : k ≤ rest.size := by have := hw.2.1; simp at this; omega
        have hk0 : 1 ≤ k := hw.1
        have hk1 : (k : Int) ≤ (rest.size : Int) := by omega
        have hk2 : ((k : Int) == 0) = false := by simp; omega
        have HD := Lib.hid hd
        clear hw hd cF hg
        go_wp2_with fail
        with_reducible refine CF.out.mono ?_
        rintro e w2 ⟨rfl, hb2⟩
        have HB2 := Lib.hid hb2
        have hsz2 := hb2.size
        clear hb2
        go_wp2_with (at_builtin; refine Kit.push rfl _ _ 41 rfl w.heap.size 3 i0 (.int .i64 0) 8 Tryd.underlying41 hi hz0 hz1 hz2 rfl _ _ _ rfl (Kit.own_below HOWN.out HB2.out) (Kit.ints [n]) 1 1 rfl rfl (Kit.one_i64 _) ?c1 ?c2 ?c3 ?_)
        case c1 => unfold maxLen; omega
        case c2 => omega
        case c3 => omega
        intro v' w4 hown' hb4
        have HOWN' := Lib.hid hown'
        clear hown'
        go_wp2_with fail
        go_roundw
        case rel =>
          exact ⟨rest.extract k rest.size, acc ++ [n], rfl, by rw [Lib.extract_to_end]; exact HRD.out.step h00 HD.out, by simp; omega, by
            have h := HOWN'.out
            rw [← Kit.ints_append] at h
            simpa using h, hbw.trans ((HB2.out.mono hsz).trans hb4)⟩
        case measure => simp [Kit.strLen]; omega
      | none =>
        have hch := HRD.out.fail h00 hd
        have HR := Lib.hid (Cs.charsR_none (by simpa using hl) hch)
        rw [show Cs.fr rest.data.toList = (0, 0) by unfold Cs.fr; rw [hd]; rfl] at cF
        have CF := Lib.hid cF
        clear cF hd hch
        go_wp2_with fail
        with_reducible refine CF.out.mono ?_
        rintro e w2 ⟨rfl, hb2⟩
        go_wp2_with fail
        go_ret2
        rw [HR.out]
        exact ⟨_, rfl, World.ownsRow_nil _ _ _ _, hbw.trans (hb2.mono hsz)⟩
    · have h0' : ¬ (0 : Int) < (rest.size : Int) := by omega
      have hch := HRD.out.done (len0 rest h0)
      have HR := Lib.hid (Cs.charsR_some (by simpa using hl) hch)
      clear hch
      go_wp2_with fail
      go_ret2
      rw [HR.out]
      exact ⟨_, rfl, HOWN.out, hbw⟩
end Go.Proofs.YtfdlnhflgiemiaaDoor
