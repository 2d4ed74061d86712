/-
  The walks through the reference's Repeat, ParseDstring, Fit and Dstring.
-/
import Derived.Test.YtfdlnhflgiemiaaDoorV3
import Derived.Test.YtfdlnhflgiemiaaDoorU5
namespace Go.Proofs.YtfdlnhflgiemiaaDoor
open Go.RowKit

set_option maxHeartbeats 1600000 in
set_option maxRecDepth 100000 in
/-- masterdiscref01.Repeat of a byte. -/
theorem vRepeat_any (b : UInt8) (z : Int) (h1 : z ≤ 65536) (h0 : -9223372036854775808 ≤ z) (w : World) : Calls Tryd.prog 43 #[.int .u8 (b.toNat : Nat), .int .i64 z] w fun e w' => e = .returned (.string ⟨(List.replicate z.toNat b).toArray⟩) ∧ Below w.heap.size w w' := by
  have hb := UInt8.toNat_lt b
  have hbo := Kit.bytes_of (b.toNat : Nat) (by omega) (by omega)
  rw [Int.toNat_natCast, UInt8.ofNat_toNat] at hbo
  have HBO := Lib.hid hbo
  clear hbo
  go_enter Tryd.func43, Tryd.ntmps43
  go_wp2_with fail
  go_loopw [6, 5] (fun iv ov wr => ∃ j : Nat, (j : Int) ≤ max z 0 ∧ iv = .int .i64 j ∧ wr.ownsRow w.heap.size 5 1 ov j (Kit.bytes (List.replicate j b)) ∧ Below w.heap.size w wr) (fun iv _ _ => (z - intOf iv).toNat)
  case atStart => exact ⟨0, by omega, rfl, Kit.own_empty w _, (Below.refl _ _).alloc (Nat.le_refl _) _⟩
  case round =>
    obtain ⟨j, hj, rfl, hown, hbw⟩ := hrel
    have HOWN := Lib.hid hown
    clear hown
    have hsz := hbw.size
    by_cases hlt : (j : Int) < z
    · go_wp2_with (at_builtin; refine Kit.app byteInfo rfl (by decide) rfl _ _ 48 rfl Tryd.underlying48 w.heap.size _ _ _ rfl HOWN.out [_] 1 1 rfl rfl (Kit.one1 rfl) ?c1 hsz ?_)
      case c1 => omega
      intro v' w4 hown' hb4
      have HOWN' := Lib.hid hown'
      clear hown'
      go_wp2_with fail
      go_roundw
      case rel => exact ⟨j + 1, by omega, by go_num, by
        have h := HOWN'.out
        rw [List.replicate_succ', Kit.bytes_append, HBO.out]
        exact h, hbw.trans hb4⟩
      case measure => simp [intOf]; omega
    · have hcv := Kit.str_own HOWN.out
      have hz : z.toNat = j := by omega
      have HZ := Lib.hid hz
      clear hz
      go_wp2_with fail
      go_ret
      rw [HZ.out]
      exact ⟨rfl, hbw⟩

set_option maxHeartbeats 1600000 in
set_option maxRecDepth 100000 in
/-- masterdiscref32.ParseDstring. -/
theorem vParse_any (f : ByteArray) (w : World) (hs : f.size ≤ 9223372036854775807) :
    Calls Tryd.prog 18 #[.string f] w fun e w' => e = .returned (.tuple #[.string ⟨(Cs.parseR f.data.toList).1.toArray⟩, .int .i64 (Cs.parseR f.data.toList).2]) ∧ Below w.heap.size w w' := by
  have hdl := Kit.len_size f
  have cS := fun W => sized_any (f.size : Int) W
  by_cases hz : Cs.sized (f.size : Int) = true
  case neg =>
    have hz' : Cs.sized (f.size : Int) = false := by simpa using hz
    have hR : Cs.parseR f.data.toList = ([], 1) := if_pos (by rw [hdl]; exact hz')
    have HR := Lib.hid hR
    have h25 : ¬ (2 ≤ (f.size : Int) ∧ (f.size : Int) ≤ 255) := fun h => hz ((sized_iff _).2 h)
    clear hR hdl cS hz hz'
    by_cases h2 : (f.size : Int) < 2
    · clear h25
      go_enter Tryd.func18, Tryd.ntmps18
      go_wp2_with fail
      go_ret2
      rw [HR.out]
      exact ⟨rfl, Below.refl _ _⟩
    have h255 : (255 : Int) < (f.size : Int) := by omega
    clear h25
    go_enter Tryd.func18, Tryd.ntmps18
    go_wp2_with fail
    go_ret2
    rw [HR.out]
    exact ⟨rfl, Below.refl _ _⟩
  case pos =>
  have h25 := (sized_iff _).1 hz
  have hR0 : Cs.parseR f.data.toList = if f.size - 1 < Cs.byt f.data.toList (f.size - 1) then ([], 10) else Cs.expandR (f.data.toList.take (Cs.byt f.data.toList (f.size - 1))) := by
    unfold Cs.parseR
    rw [if_neg (by rw [hdl, hz]; simp), hdl]
  have hpos : f.size - 1 < f.size := by omega
  have bl := Kit.byt_get f (f.size - 1) hpos
  have lb := Cs.byt_lt f.data.toList (f.size - 1)
  have cE := fun W h => vExpand_any (f.extract 0 (Cs.byt f.data.toList (f.size - 1))) W h
  have hidx : ((f.size : Int) - 1).toNat = f.size - 1 := by omega
  generalize hn : Cs.byt f.data.toList (f.size - 1) = n at *
  by_cases hc : f.size - 1 < n
  · have HR := Lib.hid (hR0.trans (if_pos hc))
    have hc' : (f.size : Int) - 1 < (n : Int) := by omega
    clear hR0 hdl cS hz hn cE hc
    obtain ⟨hl2, hu2⟩ := h25
    go_enter Tryd.func18, Tryd.ntmps18
    go_wp2_with fail
    go_ret2
    rw [HR.out]
    exact ⟨rfl, Below.refl _ _⟩
  · have HR := Lib.hid (hR0.trans (if_neg hc))
    have hc' : ¬ (f.size : Int) - 1 < (n : Int) := by omega
    have hc2 : (n : Int) ≤ (f.size : Int) := by omega
    have hex : (f.extract 0 n).data.toList = f.data.toList.take n := by rw [Lib.extract_data]; simp
    rw [hex] at cE
    have CE := Lib.hid (fun W => cE W (by simp; omega))
    clear hR0 hdl cS hz hn cE hc hex
    obtain ⟨hl2, hu2⟩ := h25
    go_enter Tryd.func18, Tryd.ntmps18
    go_wp2_with fail
    with_reducible refine (CE.out _).mono ?_
    rintro e w4 ⟨rfl, hb4⟩
    go_wp2_with fail
    go_ret2
    rw [HR.out]
    exact ⟨rfl, hb4⟩
set_option maxHeartbeats 1600000 in
set_option maxRecDepth 100000 in
/-- masterdiscref32.Fit. -/
theorem vFit_any (s : ByteArray) (size : Int) (w : World) (hs : s.size ≤ 9223372036854775807) :
    Calls Tryd.prog 20 #[.string s, .int .i64 size] w fun e w' => e = .returned (.string ⟨(Cs.fitR s.data.toList size).toArray⟩) ∧ Below w.heap.size w w' := by
  have cC := rCharacters_any s w hs
  by_cases h0 : (Cs.charsR s.data.toList).2 = 0
  case neg =>
    have HR := Lib.hid (Cs.fitR_no (l := s.data.toList) (size := size) (fun h => h0 h.1))
    generalize (Cs.charsR s.data.toList).1 = cs at *
    generalize (Cs.charsR s.data.toList).2 = er at *
    have h0'' : (er != 0) = true := by rw [bne_iff_ne]; exact h0
    have CC := Lib.hid cC
    clear cC h0
    go_enter Tryd.func20, Tryd.ntmps20
    go_wp2_with fail
    with_reducible refine CC.out.mono ?_
    rintro e w2 ⟨v, rfl, _, hb2⟩
    go_wp2_with fail
    go_ret
    rw [HR.out]
    exact ⟨rfl, hb2⟩
  case pos =>
  obtain ⟨hl, hch⟩ := Cs.charsR_zero h0
  by_cases hz : Cs.sized size = true
  case neg =>
    have HR := Lib.hid (Cs.fitR_no (l := s.data.toList) (size := size) (fun h => hz h.2))
    have h25 : ¬ (2 ≤ size ∧ size ≤ 255) := fun h => hz ((sized_iff _).2 h)
    rw [h0] at cC
    generalize (Cs.charsR s.data.toList).1 = cs at *
    have CC := Lib.hid cC
    clear cC h0 hz hl hch
    by_cases h2 : size < 2
    · clear h25
      go_enter Tryd.func20, Tryd.ntmps20
      go_wp2_with fail
      with_reducible refine CC.out.mono ?_
      rintro e w2 ⟨v, rfl, _, hb2⟩
      go_wp2_with fail
      go_ret
      rw [HR.out]
      exact ⟨rfl, hb2⟩
    · have h255 : 255 < size := by omega
      clear h25
      go_enter Tryd.func20, Tryd.ntmps20
      go_wp2_with fail
      with_reducible refine CC.out.mono ?_
      rintro e w2 ⟨v, rfl, _, hb2⟩
      go_wp2_with fail
      go_ret
      rw [HR.out]
      exact ⟨rfl, hb2⟩
  case pos =>
  have hR := Cs.fitR_ok h0 hz
  obtain ⟨hz2, hz255⟩ := (sized_iff _).1 hz
  rw [h0] at cC
  have hall := Cs.chars_all hch
  generalize (Cs.charsR s.data.toList).1 = cs at *
  obtain ⟨m, rfl⟩ : ∃ m : Nat, size = m := ⟨size.toNat, by omega⟩
  rw [Int.toNat_natCast] at hR
  have HR := Lib.hid hR
  have HALL := Lib.hid hall
  have CC := Lib.hid cC
  have hcl : cs.length ≤ 65536 := by have := (Cs.chars_len hch).1; omega
  clear cC h0 hz hl hch hR hall
  go_enter Tryd.func20, Tryd.ntmps20
  go_wp2_with fail
  with_reducible refine CC.out.mono ?_
  rintro e w2 ⟨v, rfl, hown, hb2⟩
  have hrow := Kit.Row.of_own hown
  clear hown
  obtain ⟨A, c, rfl⟩ : ∃ A c, v = .slice A cs.length c := by
    obtain ⟨A, c, e, _⟩ := hrow
    rw [Kit.ints_length] at e
    exact ⟨A, c, e⟩
  have hlc : cs.length ≤ c ∧ c ≤ 9223372036854775807 := by
    obtain ⟨A', c', he, h1, h2, _⟩ := hrow
    injection he with _ _ e3
    rw [Kit.ints_length] at h1
    unfold maxLen at h2
    omega
  obtain ⟨hlc1, hlc2⟩ := hlc
  have HROW := Lib.hid hrow
  clear hrow
  go_wp2_with fail
  go_loopw [7] (fun nv wr => ∃ k : Nat, nv = .int .i64 k ∧ k ≤ cs.length ∧ k ≤ m ∧ Hid (Cs.fitN cs m (min cs.length m) = Cs.fitN cs m k) ∧ Below w2.heap.size w2 wr) (fun nv _ => (intOf nv).toNat)
  case atStart => exact ⟨min cs.length m, congrArg (Value.int .i64) (by omega), by omega, by omega, Lib.hid rfl, Below.refl _ _⟩
  case round =>
    obtain ⟨k, rfl, hkl, hkm, HF, hbw⟩ := hrel
    have hszw := hbw.size
    by_cases hk0 : 0 < k
    · obtain ⟨n, rfl⟩ : ∃ n, k = n + 1 := ⟨k - 1, by omega⟩
      have hk0' : (0 : Int) < ((n + 1 : Nat) : Int) := by omega
      have hkc : ((n + 1 : Nat) : Int) ≤ (c : Int) := by omega
      have h655 : ∀ x ∈ cs.take (n + 1), x ≤ 65535 := fun x hx => by
        have := Cs.isChar_le (List.all_eq_true.1 HALL.out x (List.mem_of_mem_take hx))
        omega
      have hlen : (cs.take (n + 1)).length ≤ 65536 := by rw [List.length_take]; omega
      have cQ := fun W hr => rSqueeze_any (.slice A (n + 1) c) (cs.take (n + 1)) W hr h655 hlen
      have cU := fun W hr => utf8_any (.slice A (n + 1) c) (cs.take (n + 1)) W hr h655 hlen
      have CQ := Lib.hid cQ
      have CU := Lib.hid cU
      have hyes := Cs.fitN_yes (cs := cs) (size := m) (n := n)
      have hno := Cs.fitN_no (cs := cs) (size := m) (n := n)
      have hsql := Cs.squeeze_len_le (cs.take (n + 1))
      have hrw : Kit.Row wr (.slice A (n + 1) c) (Kit.ints (cs.take (n + 1))) := by
        rw [Kit.ints_izs]
        exact row_take (HROW.out.below hbw) hkl
      have HRW := Lib.hid hrw
      clear cQ cU h655 hlen hrw
      by_cases hq : ((Cs.squeeze (cs.take (n + 1))).length : Int) ≤ m - 1
      · have HY := Lib.hid (hyes hq)
        clear hyes hno
        go_wp2_with fail
        with_reducible refine (CQ.out _ HRW.out).mono ?_
        rintro e w4 ⟨rfl, hb4⟩
        go_wp2_with fail
        with_reducible refine (CU.out _ (HRW.out.below hb4)).mono ?_
        rintro e w5 ⟨rfl, hb5⟩
        go_wp2_with fail
        go_ret
        rw [HR.out, HF.out, HY.out]
        exact ⟨rfl, hb2.trans ((hbw.trans ((hb4.mono hszw).trans (hb5.mono (Nat.le_trans hszw hb4.size)))).mono hb2.size)⟩
      · have HN := Lib.hid (hno hq)
        clear hyes hno
        go_wp2_with fail
        with_reducible refine (CQ.out _ HRW.out).mono ?_
        rintro e w4 ⟨rfl, hb4⟩
        go_wp2_with fail
        go_roundw
        case rel => exact ⟨n, by go_num, by omega, by omega, Lib.hid (HF.out.trans HN.out), hbw.trans (hb4.mono hszw)⟩
        case measure => simp [intOf]
    · obtain rfl : k = 0 := by omega
      have hrw : Kit.Row wr (.slice A 0 c) (Kit.ints (cs.take 0)) := by
        rw [Kit.ints_izs]
        exact row_take (HROW.out.below hbw) (by omega)
      have CU := Lib.hid (utf8_any (.slice A 0 c) (cs.take 0) wr hrw (by simp) (by simp))
      clear hrw
      go_wp2_with fail
      with_reducible refine (CU.out).mono ?_
      rintro e w5 ⟨rfl, hb5⟩
      go_wp2_with fail
      go_ret
      rw [HR.out, HF.out]
      exact ⟨rfl, hb2.trans ((hbw.trans (hb5.mono hszw)).mono hb2.size)⟩
end Go.Proofs.YtfdlnhflgiemiaaDoor
