/-
  The walks through Upper of charset and of the reference, and through the reference's Repeat and Field.
-/
import Derived.Test.YtdcknfdileomoaaDoorF1
namespace Go.Proofs.YtdcknfdileomoaaDoor
open Go.RowKit

theorem repeatL_snoc (l : List UInt8) (n : Nat) : Lib.repeatL l (n + 1) = Lib.repeatL l n ++ l := by
  induction n with
  | zero => simp [Lib.repeatL]
  | succ n ih => rw [Lib.repeatL, ih, ← List.append_assoc, ← Lib.repeatL, ih]

set_option maxHeartbeats 1600000 in
set_option maxRecDepth 100000 in
/-- masterdiscref17.Repeat. -/
theorem rRepeat_any (s : ByteArray) (z : Int) (w : World) (h1 : z ≤ 65536) (h0 : -9223372036854775808 ≤ z) (hs : s.size ≤ 2) :
    Calls Tryd.prog 54 #[.string s, .int .i64 z] w fun e w' => e = .returned (.string ⟨(Lib.repeatL s.data.toList z.toNat).toArray⟩) ∧ Below w.heap.size w w' := by
  obtain ⟨i0, hi, hz0, hz1, hz2⟩ := info_parts byteInfo
  have HL := Lib.hid (repeatL_snoc s.data.toList)
  go_enter Tryd.func54, Tryd.ntmps54
  go_wp2_with fail
  go_loopw [6, 5] (fun iv ov wr => ∃ j n : Nat, (j : Int) ≤ 65536 ∧ (j ≤ z.toNat) ∧ iv = .int .i64 j ∧ wr.ownsRow w.heap.size 5 1 ov n (Kit.bytes (Lib.repeatL s.data.toList j)) ∧ n ≤ 2 * j ∧ Below w.heap.size w wr) (fun iv _ _ => z.toNat - (intOf iv).toNat)
  case atStart => exact ⟨0, 0, by omega, by omega, rfl, World.ownsRow_nil _ _ _ _, by omega, Below.refl _ _⟩
  case round =>
    obtain ⟨j, n, hj, hjz, rfl, hown, hn, hbw⟩ := hrel
    have HOWN := Lib.hid hown
    clear hown
    have hsz := hbw.size
    by_cases hlt : (j : Int) < z
    · go_wp2_with (at_builtin; refine Lib.wpList_append_own_string _ rfl _ _ 47 9 rfl w.heap.size 5 i0 Tryd.underlying47 Tryd.underlying9 hi hz0 hz1 hz2 _ n _ rfl HOWN.out s rfl ?c1 ?c2 hsz ?_)
      case c1 => unfold maxLen; omega
      case c2 => omega
      intro v' w4 hown' hg _
      have hb4 : Below w.heap.size wr w4 := (Below.refl _ _).grown hg hsz (fun k hk => (HOWN.out.lt k hk).1)
      have HOWN' := Lib.hid hown'
      clear hown' hg
      go_wp2_with fail
      go_roundw
      case rel => exact ⟨j + 1, n + s.size, by omega, by omega, by go_num, by
        rw [HL.out, Kit.bytes_append]
        exact HOWN'.out, by omega, hbw.trans hb4⟩
      case measure => simp [intOf]; omega
    · obtain rfl : j = z.toNat := by omega
      have hcv := Kit.str_own HOWN.out
      go_wp2_with fail
      go_ret
      exact ⟨rfl, hbw⟩

set_option maxHeartbeats 1600000 in
set_option maxRecDepth 100000 in
/-- masterdiscref17.Field. -/
theorem rField_any (s : ByteArray) (z : Int) (w : World) (hs : s.size ≤ 9223372036854775807) :
    Calls Tryd.prog 24 #[.string s, .int .i64 z] w fun e w' => e = .returned (.tuple #[.string ⟨(Cs.fieldR s.data.toList z).1.toArray⟩, .int .i64 (Cs.fieldR s.data.toList z).2]) ∧ Below w.heap.size w w' := by
  have hdl := Kit.len_size s
  have hR : Cs.fieldR s.data.toList z = if 65536 < s.size then ([], 7) else if z < 0 ∨ 65536 < z then ([], 2) else if z < s.size then ([], 12) else (s.data.toList ++ List.replicate (z.toNat - s.size) 32, 0) := by
    unfold Cs.fieldR
    rw [hdl]
  by_cases h1 : 65536 < s.size
  · rw [if_pos h1] at hR
    have HR := Lib.hid hR
    have h1' : (65536 : Int) < (s.size : Int) := by omega
    clear hR hdl h1
    go_enter Tryd.func24, Tryd.ntmps24
    go_wp2_with fail
    go_ret2
    rw [HR.out]
    exact ⟨rfl, Below.refl _ _⟩
  rw [if_neg h1] at hR
  have h1' : ¬ (65536 : Int) < (s.size : Int) := by omega
  by_cases h2 : z < 0
  · rw [if_pos (.inl h2)] at hR
    have HR := Lib.hid hR
    clear hR hdl h1
    go_enter Tryd.func24, Tryd.ntmps24
    go_wp2_with fail
    go_ret2
    rw [HR.out]
    exact ⟨rfl, Below.refl _ _⟩
  by_cases h3 : 65536 < z
  · rw [if_pos (.inr h3)] at hR
    have HR := Lib.hid hR
    clear hR hdl h1
    go_enter Tryd.func24, Tryd.ntmps24
    go_wp2_with fail
    go_ret2
    rw [HR.out]
    exact ⟨rfl, Below.refl _ _⟩
  rw [if_neg (by omega)] at hR
  by_cases h4 : z < s.size
  · rw [if_pos h4] at hR
    have HR := Lib.hid hR
    clear hR hdl h1
    go_enter Tryd.func24, Tryd.ntmps24
    go_wp2_with fail
    go_ret2
    rw [HR.out]
    exact ⟨rfl, Below.refl _ _⟩
  rw [if_neg h4] at hR
  have cZ := fun W => rRepeat_any ⟨#[32]⟩ (z - (s.size : Int)) W (by omega) (by omega) (by decide)
  rw [show (⟨#[32]⟩ : ByteArray).data.toList = [32] from rfl, repeatL_one, show (z - (s.size : Int)).toNat = z.toNat - s.size by omega] at cZ
  have hrl : (List.replicate (z.toNat - s.size) (32 : UInt8)).length ≤ 65536 := by simp; omega
  generalize List.replicate (z.toNat - s.size) (32 : UInt8) = r at *
  have HR := Lib.hid hR
  have CZ := Lib.hid cZ
  clear hR hdl h1 cZ
  go_enter Tryd.func24, Tryd.ntmps24
  go_wp2_with fail
  with_reducible refine (CZ.out _).mono ?_
  rintro e w3 ⟨rfl, hb3⟩
  go_wp2_with fail
  go_ret2
  rw [HR.out, append_str]
  exact ⟨rfl, hb3⟩

/-- The byte at a place while capitals are put in: behind place i as it was. -/
def upTo (l : List UInt8) (i j : Nat) : Nat := if j < i then (Cs.up (l.getD j 0)).toNat else Cs.byt l j

theorem upTo_other (l : List UInt8) (i j : Nat) (h : j ≠ i) : upTo l (i + 1) j = upTo l i j := by
  unfold upTo
  by_cases hj : j < i
  · rw [if_pos hj, if_pos (by omega)]
  · rw [if_neg hj, if_neg (by omega)]
theorem upTo_same (l : List UInt8) (i : Nat) : upTo l (i + 1) i = (Cs.up (l.getD i 0)).toNat := if_pos (by omega)
theorem upTo_here (l : List UInt8) (i : Nat) : upTo l i i = Cs.byt l i := if_neg (by omega)
theorem up_small {l : List UInt8} {i : Nat} (h : 97 ≤ Cs.byt l i ∧ Cs.byt l i ≤ 122) : (Cs.up (l.getD i 0)).toNat = Cs.byt l i - 32 := by
  have := Cs.byt_lt l i
  unfold Cs.byt at *
  unfold Cs.up
  rw [if_pos h, UInt8.toNat_ofNat']
  omega
theorem up_not {l : List UInt8} {i : Nat} (h : ¬ (97 ≤ Cs.byt l i ∧ Cs.byt l i ≤ 122)) : (Cs.up (l.getD i 0)).toNat = Cs.byt l i := by
  unfold Cs.byt at *
  unfold Cs.up
  rw [if_neg h]

/-- The bytes of a slice while capitals are put in. -/
def Ups (l : List UInt8) (g i : Nat) (w : World) : Prop := ∀ j, j < l.length → w.cell? ⟨g, j, none⟩ = some (.int .u8 (upTo l i j : Nat)) ∧ w.frozen? ⟨g, j, none⟩ = false

/-- '[]byte(s)': a new row with the bytes of s, to be written. -/
theorem str_bytes_w (w : World) (s : ByteArray) : ∃ cap W', (convert 9 47 (.string s)).run Tryd.prog w = .ok (.slice (some ⟨w.heap.size, 0, none⟩) s.size cap) W' ∧ Below w.heap.size w W' ∧
    s.size ≤ cap ∧ ∀ j, j < s.size → W'.cell? ⟨w.heap.size, j, none⟩ = some (.int .u8 (Cs.byt s.data.toList j : Nat)) ∧ W'.frozen? ⟨w.heap.size, j, none⟩ = false := by
  have h := run_bytes_of_string (P := Tryd.prog) w 9 47 5 s Tryd.underlying9 Tryd.underlying47 Tryd.underlying5
  refine ⟨_, _, h, ?_, grownCap_ge w _ _ _, ?_⟩
  · exact ((Below.refl _ w).drew).alloc (Nat.le_refl _) _
  · intro j hj
    have hj' : j < s.data.size := hj
    refine ⟨?_, ?_⟩
    · rw [show w.heap.size = w.drew.heap.size from rfl, World.cell?_alloc_mark, bytesRow_at _ _ _ hj']
      congr 3
      unfold Cs.byt
      simp only [List.getD, Array.getElem?_toList, Array.getElem?_eq_getElem hj', Option.getD_some]
    · rw [show w.heap.size = w.drew.heap.size from rfl, World.frozen?_alloc_mark]
      have hb : j < (bytesRow s (grownCap w s.size 0 5)).size := by
        have := bytesRow_at s (grownCap w s.size 0 5) j hj'
        exact (Array.getElem?_eq_some_iff.1 this).1
      simp
      omega

theorem Ups.skip {l : List UInt8} {g i : Nat} {w : World} (h : Ups l g i w) (hn : ¬ (97 ≤ Cs.byt l i ∧ Cs.byt l i ≤ 122)) : Ups l g (i + 1) w := by
  intro j hj
  refine ⟨?_, (h j hj).2⟩
  rw [(h j hj).1]
  by_cases hji : j = i
  · subst hji; rw [upTo_same, upTo_here, up_not hn]
  · rw [upTo_other _ _ _ hji]

theorem Ups.set {l : List UInt8} {g i : Nat} {w : World} (h : Ups l g i w) (hi : i < l.length) (hs : 97 ≤ Cs.byt l i ∧ Cs.byt l i ≤ 122) (x : Int) (hx : x = (Cs.byt l i : Int) - 32) : Ups l g (i + 1) (w.setCell ⟨g, i, none⟩ (.int .u8 x)) := by
  intro j hj
  refine ⟨?_, by rw [World.frozen?_setCell]; exact (h j hj).2⟩
  by_cases hji : j = i
  · subst hji
    rw [World.cell?_setCell_same (h := (h j hj).1), upTo_same, up_small hs, hx]
    congr 2
    omega
  · rw [World.cell?_setCell_other (h := by intro e; injection e with _ e2 _; exact hji e2.symm), (h j hj).1, upTo_other _ _ _ hji]

theorem upper_some {l : List UInt8} (h : l.length ≤ 65536) : Cs.upperR l = l.map Cs.up := if_neg (by omega)

theorem Ups.str {l : List UInt8} {g cap : Nat} {w : World} (h : Ups l g l.length w) : (convert 47 9 (.slice (some ⟨g, 0, none⟩) l.length cap)).run Tryd.prog w = .ok (.string ⟨(l.map Cs.up).toArray⟩) w := by
  have := run_convert_bytes_back (P := Tryd.prog) w 47 9 5 ⟨g, 0, none⟩ cap (l.map Cs.up) Tryd.underlying47 Tryd.underlying5 Tryd.underlying9 (fun j hj => by
    have hj' : j < l.length := by simpa using hj
    rw [Addr.add_lit, Nat.zero_add, (h j hj').1]
    unfold upTo
    rw [if_pos hj']
    simp [List.getD, hj'])
  simpa using this

set_option maxHeartbeats 1600000 in
set_option maxRecDepth 100000 in
/-- charset.Upper. -/
theorem upper_any (s : ByteArray) (w : World) (hs : s.size ≤ 9223372036854775807) :
    Calls Tryd.prog 21 #[.string s] w fun e w' => e = .returned (.string ⟨(Cs.upperR s.data.toList).toArray⟩) ∧ Below w.heap.size w w' := by
  have hdl := Kit.len_size s
  by_cases h1 : 65536 < s.size
  · have HR := Lib.hid (show Cs.upperR s.data.toList = [] from if_pos (by omega))
    have h1' : (65536 : Int) < (s.size : Int) := by omega
    clear hdl h1
    go_enter Tryd.func21, Tryd.ntmps21
    go_wp2_with fail
    go_ret
    rw [HR.out]
    exact ⟨rfl, Below.refl _ _⟩
  have HR := Lib.hid (upper_some (l := s.data.toList) (by omega))
  have h1' : ¬ (65536 : Int) < (s.size : Int) := by omega
  obtain ⟨cap, W1, hcv, hbW, hcap, hcells⟩ := str_bytes_w w s
  have hst : Ups s.data.toList w.heap.size 0 W1 := fun j hj => hcells j (by omega)
  have HST := Lib.hid hst
  have HDL := Lib.hid hdl
  clear hcells hst hdl h1
  go_enter Tryd.func21, Tryd.ntmps21
  go_wp2_with fail
  go_loopw [13] (fun iv wr => ∃ i : Nat, i ≤ s.size ∧ iv = .int .i64 i ∧ Hid (Ups s.data.toList w.heap.size i wr) ∧ Below w.heap.size w wr) (fun iv _ => s.size - (intOf iv).toNat)
  case atStart => exact ⟨0, by omega, rfl, HST, hbW⟩
  case round =>
    obtain ⟨i, hi, rfl, HU, hbw⟩ := hrel
    by_cases hlt : i < s.size
    · obtain ⟨hc, hfz⟩ := HU.out i (by rw [HDL.out]; exact hlt)
      rw [upTo_here] at hc
      have lb := Cs.byt_lt s.data.toList i
      by_cases hsm : 97 ≤ Cs.byt s.data.toList i ∧ Cs.byt s.data.toList i ≤ 122
      · have HS := Lib.hid (HU.out.set (by rw [HDL.out]; exact hlt) hsm)
        obtain ⟨ha, hb⟩ := hsm
        have hrest : Below w.heap.size w wr := hbw
        generalize Cs.byt s.data.toList i = c at *
        have ha' : (97 : Int) ≤ (c : Int) := by omega
        have hb' : (c : Int) ≤ 122 := by omega
        go_wp2_with fail
        go_roundw
        case rel => exact ⟨i + 1, by omega, by go_num, Lib.hid (HS.out _ (by go_arith)), hbw.setCell (Nat.le_refl _) _⟩
        case measure => simp [intOf]; omega
      · have HS := Lib.hid (HU.out.skip hsm)
        generalize Cs.byt s.data.toList i = c at *
        have hsm' : (c : Int) < 97 ∨ 122 < (c : Int) := by omega
        rcases hsm' with h97 | h122
        · go_wp2_with fail
          go_roundw
          case rel => exact ⟨i + 1, by omega, by go_num, HS, hbw⟩
          case measure => simp [intOf]; omega
        · have h97 : (97 : Int) ≤ (c : Int) := by omega
          go_wp2_with fail
          go_roundw
          case rel => exact ⟨i + 1, by omega, by go_num, HS, hbw⟩
          case measure => simp [intOf]; omega
    · obtain rfl : i = s.size := by omega
      have hU := HU.out
      have hdl := HDL.out
      have hcv2 := (show Ups s.data.toList w.heap.size s.data.toList.length wr by rw [hdl]; exact hU).str (cap := cap)
      rw [hdl] at hcv2
      clear hU hdl hcv
      go_wp2_with fail
      go_ret
      rw [HR.out]
      exact ⟨rfl, hbw⟩
set_option maxHeartbeats 1600000 in
set_option maxRecDepth 100000 in
/-- masterdiscref17.Upper. -/
theorem rUpper_any (s : ByteArray) (w : World) (hs : s.size ≤ 9223372036854775807) :
    Calls Tryd.prog 22 #[.string s] w fun e w' => e = .returned (.string ⟨(Cs.upperR s.data.toList).toArray⟩) ∧ Below w.heap.size w w' := by
  have hdl := Kit.len_size s
  by_cases h1 : 65536 < s.size
  · have HR := Lib.hid (show Cs.upperR s.data.toList = [] from if_pos (by omega))
    have h1' : (65536 : Int) < (s.size : Int) := by omega
    clear hdl h1
    go_enter Tryd.func22, Tryd.ntmps22
    go_wp2_with fail
    go_ret
    rw [HR.out]
    exact ⟨rfl, Below.refl _ _⟩
  have HR := Lib.hid (upper_some (l := s.data.toList) (by omega))
  have h1' : ¬ (65536 : Int) < (s.size : Int) := by omega
  obtain ⟨cap, W1, hcv, hbW, hcap, hcells⟩ := str_bytes_w w s
  have hst : Ups s.data.toList w.heap.size 0 W1 := fun j hj => hcells j (by omega)
  have HST := Lib.hid hst
  have HDL := Lib.hid hdl
  clear hcells hst hdl h1
  go_enter Tryd.func22, Tryd.ntmps22
  go_wp2_with fail
  go_loopw [4] (fun iv wr => ∃ i : Nat, i ≤ s.size ∧ iv = .int .i64 i ∧ Hid (Ups s.data.toList w.heap.size i wr) ∧ Below w.heap.size w wr) (fun iv _ => s.size - (intOf iv).toNat)
  case atStart => exact ⟨0, by omega, rfl, HST, hbW⟩
  case round =>
    obtain ⟨i, hi, rfl, HU, hbw⟩ := hrel
    by_cases hlt : i < s.size
    · obtain ⟨hc, hfz⟩ := HU.out i (by rw [HDL.out]; exact hlt)
      rw [upTo_here] at hc
      have lb := Cs.byt_lt s.data.toList i
      by_cases hsm : 97 ≤ Cs.byt s.data.toList i ∧ Cs.byt s.data.toList i ≤ 122
      · have HS := Lib.hid (HU.out.set (by rw [HDL.out]; exact hlt) hsm)
        obtain ⟨ha, hb⟩ := hsm
        have hrest : Below w.heap.size w wr := hbw
        generalize Cs.byt s.data.toList i = c at *
        have ha' : (97 : Int) ≤ (c : Int) := by omega
        have hb' : (c : Int) ≤ 122 := by omega
        go_wp2_with fail
        go_roundw
        case rel => exact ⟨i + 1, by omega, by go_num, Lib.hid (HS.out _ (by go_arith)), hbw.setCell (Nat.le_refl _) _⟩
        case measure => simp [intOf]; omega
      · have HS := Lib.hid (HU.out.skip hsm)
        generalize Cs.byt s.data.toList i = c at *
        have hsm' : (c : Int) < 97 ∨ 122 < (c : Int) := by omega
        rcases hsm' with h97 | h122
        · go_wp2_with fail
          go_roundw
          case rel => exact ⟨i + 1, by omega, by go_num, HS, hbw⟩
          case measure => simp [intOf]; omega
        · have h97 : (97 : Int) ≤ (c : Int) := by omega
          go_wp2_with fail
          go_roundw
          case rel => exact ⟨i + 1, by omega, by go_num, HS, hbw⟩
          case measure => simp [intOf]; omega
    · obtain rfl : i = s.size := by omega
      have hU := HU.out
      have hdl := HDL.out
      have hcv2 := (show Ups s.data.toList w.heap.size s.data.toList.length wr by rw [hdl]; exact hU).str (cap := cap)
      rw [hdl] at hcv2
      clear hU hdl hcv
      go_wp2_with fail
      go_ret
      rw [HR.out]
      exact ⟨rfl, hbw⟩
end Go.Proofs.YtdcknfdileomoaaDoor
