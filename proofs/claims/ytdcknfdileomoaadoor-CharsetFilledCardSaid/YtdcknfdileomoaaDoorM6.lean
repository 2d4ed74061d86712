/-
  The walk through the law CharsetFilled.
-/
import Derived.Test.YtdcknfdileomoaaDoorAx
import Derived.Test.YtdcknfdileomoaaDoorLf
import Derived.Test.YtdcknfdileomoaaDoorM5
namespace Go.Proofs.YtdcknfdileomoaaDoor
open Go.RowKit

theorem prefix_app (a b : List UInt8) : Lib.hasPrefix (a ++ b) a = true := by simp [Lib.hasPrefix]
theorem trim_blank (m : Nat) : Lib.trimRightB (List.replicate m 32) 32 = [] := by
  have := Cs.trim_rep [] m (by simp)
  simpa using this

set_option maxHeartbeats 1600000 in
/-- The three ways of Ucs2, WideField and WideTrim. -/
theorem wide_ways (s : ByteArray) (z : Int) (hs : s.size ≤ 200) (h0 : 0 ≤ z) (h1 : z ≤ 1000) :
    (∃ er : Int, er ≠ 0 ∧ (∀ W, Lib.Utf8Tabs 1 2 W → Calls Tryd.prog 27 #[.string s] W fun e w' => e = .returned (.tuple #[.string ⟨#[]⟩, .int .i64 er]) ∧ Below W.heap.size W w') ∧ (∀ W, Lib.Utf8Tabs 1 2 W → Calls Tryd.prog 31 #[.string s, .int .i64 z] W fun e w' => e = .returned (.tuple #[.string ⟨#[]⟩, .int .i64 er]) ∧ Below W.heap.size W w')) ∨
    (∃ u : ByteArray, z < (u.size : Int) ∧ (∀ W, Lib.Utf8Tabs 1 2 W → Calls Tryd.prog 27 #[.string s] W fun e w' => e = .returned (.tuple #[.string u, .int .i64 0]) ∧ Below W.heap.size W w') ∧ (∀ W, Lib.Utf8Tabs 1 2 W → Calls Tryd.prog 31 #[.string s, .int .i64 z] W fun e w' => e = .returned (.tuple #[.string ⟨#[]⟩, .int .i64 12]) ∧ Below W.heap.size W w')) ∨
    (∃ u v : ByteArray, (u.size : Int) ≤ z ∧ (v.size : Int) = z ∧ (∀ W, Lib.Utf8Tabs 1 2 W → Calls Tryd.prog 27 #[.string s] W fun e w' => e = .returned (.tuple #[.string u, .int .i64 0]) ∧ Below W.heap.size W w') ∧ (∀ W, Lib.Utf8Tabs 1 2 W → Calls Tryd.prog 31 #[.string s, .int .i64 z] W fun e w' => e = .returned (.tuple #[.string v, .int .i64 0]) ∧ Below W.heap.size W w') ∧
      (∀ W, Calls Tryd.prog 33 #[.string v] W fun e w' => e = .returned (.tuple #[.string ⟨(Lib.trimRightB s.data.toList 32).toArray⟩, .int .i64 0]) ∧ Below W.heap.size W w') ∧
      (∀ W, Calls Tryd.prog 35 #[.string v, .string u] W fun e w' => e = .returned (.bool true) ∧ w' = W)) := by
  have hs' : s.size ≤ 9223372036854775807 := by omega
  have hdl := Kit.len_size s
  by_cases hc : (Cs.charsR s.data.toList).2 = 0
  case neg =>
    left
    refine ⟨(Cs.charsR s.data.toList).2, hc, fun W h => ?_, fun W h => ?_⟩
    · have := ucs2_any s W h hs'
      rw [ucs2_err hc] at this
      exact this
    · have := wideField_any s z W h hs'
      have e : Cs.wideFieldR s.data.toList z = ([], (Cs.charsR s.data.toList).2) := by
        unfold Cs.wideFieldR
        rw [ucs2_err hc, if_pos hc]
      rw [e] at this
      exact this
  case pos =>
  obtain ⟨hl, hch⟩ := Cs.charsR_zero hc
  generalize (Cs.charsR s.data.toList).1 = cs at *
  have hcl := (Cs.chars_len hch).1
  have hu := Cs.ucs2_of hl hch
  have hfl := Cs.flat_cu_len 2 (.inr rfl) cs
  right
  by_cases hf : z < (2 * cs.length : Nat)
  · left
    refine ⟨⟨(cs.flatMap (Cs.cu 2)).toArray⟩, by rw [lb_size, hfl]; exact hf, fun W h => ?_, fun W h => ?_⟩
    · have := ucs2_any s W h hs'
      rw [hu] at this
      exact this
    · have := wideField_any s z W h hs'
      have e : Cs.wideFieldR s.data.toList z = ([], 12) := by
        unfold Cs.wideFieldR
        rw [hu, if_neg (by simp), if_neg (by omega), if_pos (by simp only; rw [hfl]; exact hf)]
      rw [e] at this
      exact this
  · right
    obtain ⟨n, rfl⟩ : ∃ n : Nat, z = n := ⟨z.toNat, by omega⟩
    have hbl := Cs.blanks2_length ((n - 2 * cs.length) / 2)
    have hwb := Cs.wide_back hch n (by omega) (by omega) (by omega)
    have hwl : (cs.flatMap (Cs.cu 2) ++ Cs.blanks2 ((n - 2 * cs.length) / 2) ++ List.replicate ((n - 2 * cs.length) % 2) (0 : UInt8)).length = n := by
      rw [List.length_append, List.length_append, hbl, hfl, List.length_replicate]
      omega
    refine ⟨⟨(cs.flatMap (Cs.cu 2)).toArray⟩, ⟨(cs.flatMap (Cs.cu 2) ++ Cs.blanks2 ((n - 2 * cs.length) / 2) ++ List.replicate ((n - 2 * cs.length) % 2) (0 : UInt8)).toArray⟩, by rw [lb_size, hfl]; omega, by rw [lb_size, hwl], fun W h => ?_, fun W h => ?_, fun W => ?_, fun W => ?_⟩
    · have := ucs2_any s W h hs'
      rw [hu] at this
      exact this
    · have := wideField_any s n W h hs'
      have e : Cs.wideFieldR s.data.toList n = (cs.flatMap (Cs.cu 2) ++ Cs.blanks2 ((n - 2 * cs.length) / 2) ++ List.replicate ((n - 2 * cs.length) % 2) (0 : UInt8), 0) := by
        unfold Cs.wideFieldR
        rw [hu, if_neg (by simp), if_neg (by omega), if_neg (by simp only; rw [hfl]; exact hf)]
        simp only [Int.toNat_natCast, hfl]
      rw [e] at this
      exact this
    · have := wideTrim_any ⟨(cs.flatMap (Cs.cu 2) ++ Cs.blanks2 ((n - 2 * cs.length) / 2) ++ List.replicate ((n - 2 * cs.length) % 2) (0 : UInt8)).toArray⟩ W (by rw [lb_size, hwl]; omega)
      rw [show (⟨(cs.flatMap (Cs.cu 2) ++ Cs.blanks2 ((n - 2 * cs.length) / 2) ++ List.replicate ((n - 2 * cs.length) % 2) (0 : UInt8)).toArray⟩ : ByteArray).data.toList = cs.flatMap (Cs.cu 2) ++ Cs.blanks2 ((n - 2 * cs.length) / 2) ++ List.replicate ((n - 2 * cs.length) % 2) (0 : UInt8) from rfl, hwb] at this
      exact this
    · have := Tryd.strings_HasPrefix ⟨(cs.flatMap (Cs.cu 2) ++ Cs.blanks2 ((n - 2 * cs.length) / 2) ++ List.replicate ((n - 2 * cs.length) % 2) (0 : UInt8)).toArray⟩ ⟨(cs.flatMap (Cs.cu 2)).toArray⟩ W
      rw [show (⟨(cs.flatMap (Cs.cu 2) ++ Cs.blanks2 ((n - 2 * cs.length) / 2) ++ List.replicate ((n - 2 * cs.length) % 2) (0 : UInt8)).toArray⟩ : ByteArray).data.toList = cs.flatMap (Cs.cu 2) ++ (Cs.blanks2 ((n - 2 * cs.length) / 2) ++ List.replicate ((n - 2 * cs.length) % 2) (0 : UInt8)) from List.append_assoc .., show (⟨(cs.flatMap (Cs.cu 2)).toArray⟩ : ByteArray).data.toList = cs.flatMap (Cs.cu 2) from rfl, prefix_app] at this
      exact this

set_option maxHeartbeats 1600000 in
/-- The two ways of Field and what is asked of its result. -/
theorem field_ways (s : ByteArray) (z : Int) (hs : s.size ≤ 200) (h0 : 0 ≤ z) (h1 : z ≤ 1000) :
    (z < (s.size : Int) ∧ ∀ W, Calls Tryd.prog 23 #[.string s, .int .i64 z] W fun e w' => e = .returned (.tuple #[.string ⟨#[]⟩, .int .i64 12]) ∧ Below W.heap.size W w') ∨
    (∃ f : ByteArray, (s.size : Int) ≤ z ∧ (f.size : Int) = z ∧ (∀ W, Calls Tryd.prog 23 #[.string s, .int .i64 z] W fun e w' => e = .returned (.tuple #[.string f, .int .i64 0]) ∧ Below W.heap.size W w') ∧
      (∀ W, Calls Tryd.prog 35 #[.string f, .string s] W fun e w' => e = .returned (.bool true) ∧ w' = W) ∧
      (∀ W, Calls Tryd.prog 36 #[.string (f.extract s.size f.size), .string ⟨#[32]⟩] W fun e w' => e = .returned (.string ⟨#[]⟩) ∧ w' = W) ∧
      (∀ W, Calls Tryd.prog 25 #[.string f] W fun e w' => e = .returned (.string ⟨(Lib.trimRightB s.data.toList 32).toArray⟩) ∧ W = w')) := by
  have hs' : s.size ≤ 9223372036854775807 := by omega
  have hdl := Kit.len_size s
  by_cases hf : z < (s.size : Int)
  · left
    refine ⟨hf, fun W => ?_⟩
    have := field_any s z W hs'
    have e : Cs.fieldR s.data.toList z = ([], 12) := by
      unfold Cs.fieldR
      rw [hdl, if_neg (by omega), if_neg (by omega), if_pos hf]
    rw [e] at this
    exact this
  · right
    have e : Cs.fieldR s.data.toList z = (s.data.toList ++ List.replicate (z.toNat - s.size) 32, 0) := by
      unfold Cs.fieldR
      rw [hdl, if_neg (by omega), if_neg (by omega), if_neg hf]
    have hlen : (s.data.toList ++ List.replicate (z.toNat - s.size) (32 : UInt8)).length = z.toNat := by
      rw [List.length_append, hdl, List.length_replicate]; omega
    refine ⟨⟨(s.data.toList ++ List.replicate (z.toNat - s.size) 32).toArray⟩, by omega, by rw [lb_size, hlen]; omega, fun W => ?_, fun W => ?_, fun W => ?_, fun W => ?_⟩
    · have := field_any s z W hs'
      rw [e] at this
      exact this
    · have := Tryd.strings_HasPrefix ⟨(s.data.toList ++ List.replicate (z.toNat - s.size) 32).toArray⟩ s W
      rw [show (⟨(s.data.toList ++ List.replicate (z.toNat - s.size) (32 : UInt8)).toArray⟩ : ByteArray).data.toList = s.data.toList ++ List.replicate (z.toNat - s.size) 32 from rfl, prefix_app] at this
      exact this
    · generalize hF : (⟨(s.data.toList ++ List.replicate (z.toNat - s.size) (32 : UInt8)).toArray⟩ : ByteArray) = F
      have hFl : F.data.toList = s.data.toList ++ List.replicate (z.toNat - s.size) (32 : UInt8) := by rw [← hF]
      have hex : (F.extract s.size F.size).data.toList = List.replicate (z.toNat - s.size) (32 : UInt8) := by
        rw [Lib.extract_to_end, hFl, ← hdl, List.drop_left]
      have hFs : F.size = z.toNat := by rw [← hF, lb_size, hlen]
      have := Tryd.strings_TrimRight_one (F.extract s.size F.size) 32 (by decide) W (by rw [extract_size]; omega)
      rw [hex, trim_blank] at this
      exact this
    · have := trim_any ⟨(s.data.toList ++ List.replicate (z.toNat - s.size) 32).toArray⟩ W (by rw [lb_size, hlen]; omega)
      obtain ⟨d, m, hd, hlast⟩ := Cs.split_end (32 : UInt8) s.data.toList
      have et : Cs.trimR (s.data.toList ++ List.replicate (z.toNat - s.size) 32) = Lib.trimRightB s.data.toList 32 := by
        have e2 : Cs.trimR (s.data.toList ++ List.replicate (z.toNat - s.size) 32) = Lib.trimRightB (s.data.toList ++ List.replicate (z.toNat - s.size) 32) 32 := if_neg (by rw [hlen]; omega)
        rw [e2, hd, List.append_assoc, List.replicate_append_replicate, Cs.trim_rep _ _ hlast, Cs.trim_rep _ _ hlast]
      rw [show (⟨(s.data.toList ++ List.replicate (z.toNat - s.size) (32 : UInt8)).toArray⟩ : ByteArray).data.toList = s.data.toList ++ List.replicate (z.toNat - s.size) 32 from rfl, et] at this
      exact this

set_option maxHeartbeats 6400000 in
set_option maxRecDepth 100000 in
theorem law6_any (s : ByteArray) (z : Int) (w : World) (hT : Lib.Utf8Tabs 1 2 w) (hs : s.size ≤ 9223372036854775807) (hz : (Lit.int .i64 z).wf = true) :
    Calls Tryd.prog 8 #[.string s, .int .i64 z] w fun e w' => e = .returned (.bool true) ∧ Below w.heap.size w w' := by
  obtain ⟨hz0, hz1⟩ := bounds_i64 hz
  have C0 := Lib.hid (awake_any w hT)
  have HT := Lib.hid hT
  clear hT hz
  by_cases g1 : (200 : Int) < (s.size : Int)
  · skip
    go_enter Tryd.func8, Tryd.ntmps8
    go_wp2_with fail
    with_reducible refine C0.out.mono ?_
    rintro e w1 ⟨rfl, hb1⟩
    go_wp2_with fail
    go_ret
    exact ⟨rfl, hb1⟩
  by_cases g2 : z < 0
  · skip
    go_enter Tryd.func8, Tryd.ntmps8
    go_wp2_with fail
    with_reducible refine C0.out.mono ?_
    rintro e w1 ⟨rfl, hb1⟩
    go_wp2_with fail
    go_ret
    exact ⟨rfl, hb1⟩
  by_cases g3 : 1000 < z
  · skip
    go_enter Tryd.func8, Tryd.ntmps8
    go_wp2_with fail
    with_reducible refine C0.out.mono ?_
    rintro e w1 ⟨rfl, hb1⟩
    go_wp2_with fail
    go_ret
    exact ⟨rfl, hb1⟩
  have hU := wide_ways s z (by omega) (by omega) (by omega)
  have hF := field_ways s z (by omega) (by omega) (by omega)
  have cS := fun W => Tryd.strings_TrimRight_one s 32 (by decide) W hs
  generalize Lib.trimRightB s.data.toList 32 = y at *
  have CS := Lib.hid cS
  clear cS
  rcases hF with ⟨hzs, cF⟩ | ⟨f, hzs, hfz, cF, cP, cR, cT⟩
  · have CF := Lib.hid cF
    clear cF
    rcases hU with ⟨er, her, cU, cW⟩ | ⟨u, hul, cU, cW⟩ | ⟨u, v, hul, hvl, cU, cW, cX, cQ⟩
    · have CU := Lib.hid cU; have CW := Lib.hid cW
      clear cU cW
      have her' : (er != 0) = true := by rw [bne_iff_ne]; exact her
      clear her
      go_enter Tryd.func8, Tryd.ntmps8
      go_wp2_with fail
      with_reducible refine C0.out.mono ?_
      rintro e w1 ⟨rfl, hb1⟩
      go_wp2_with fail
      with_reducible refine (CF.out _).mono ?_
      rintro e w2 ⟨rfl, hb2⟩
      have hc2 := hb1.trans (hb2.mono hb1.size)
      go_wp2_with fail
      with_reducible refine (CU.out _ (Kit.tabs_below HT.out hc2)).mono ?_
      rintro e w4 ⟨rfl, hb4⟩
      have hc4 := hc2.trans (hb4.mono hc2.size)
      go_wp2_with fail
      with_reducible refine (CW.out _ (Kit.tabs_below HT.out hc4)).mono ?_
      rintro e w5 ⟨rfl, hb5⟩
      have hc5 := hc4.trans (hb5.mono hc4.size)
      go_wp2_with fail
      go_ret
      exact ⟨rfl, hc5⟩
    · have CU := Lib.hid cU; have CW := Lib.hid cW
      clear cU cW
      go_enter Tryd.func8, Tryd.ntmps8
      go_wp2_with fail
      with_reducible refine C0.out.mono ?_
      rintro e w1 ⟨rfl, hb1⟩
      go_wp2_with fail
      with_reducible refine (CF.out _).mono ?_
      rintro e w2 ⟨rfl, hb2⟩
      have hc2 := hb1.trans (hb2.mono hb1.size)
      go_wp2_with fail
      with_reducible refine (CU.out _ (Kit.tabs_below HT.out hc2)).mono ?_
      rintro e w4 ⟨rfl, hb4⟩
      have hc4 := hc2.trans (hb4.mono hc2.size)
      go_wp2_with fail
      with_reducible refine (CW.out _ (Kit.tabs_below HT.out hc4)).mono ?_
      rintro e w5 ⟨rfl, hb5⟩
      have hc5 := hc4.trans (hb5.mono hc4.size)
      go_wp2_with fail
      go_ret
      exact ⟨rfl, hc5⟩
    · have CU := Lib.hid cU; have CW := Lib.hid cW; have CX := Lib.hid cX; have CQ := Lib.hid cQ
      clear cU cW cX cQ
      go_enter Tryd.func8, Tryd.ntmps8
      go_wp2_with fail
      with_reducible refine C0.out.mono ?_
      rintro e w1 ⟨rfl, hb1⟩
      go_wp2_with fail
      with_reducible refine (CF.out _).mono ?_
      rintro e w2 ⟨rfl, hb2⟩
      have hc2 := hb1.trans (hb2.mono hb1.size)
      go_wp2_with fail
      with_reducible refine (CU.out _ (Kit.tabs_below HT.out hc2)).mono ?_
      rintro e w4 ⟨rfl, hb4⟩
      have hc4 := hc2.trans (hb4.mono hc2.size)
      go_wp2_with fail
      with_reducible refine (CW.out _ (Kit.tabs_below HT.out hc4)).mono ?_
      rintro e w5 ⟨rfl, hb5⟩
      have hc5 := hc4.trans (hb5.mono hc4.size)
      go_wp2_with fail
      with_reducible refine (CX.out _).mono ?_
      rintro e w6 ⟨rfl, hb6⟩
      have hc6 := hc5.trans (hb6.mono hc5.size)
      go_wp2_with fail
      with_reducible refine (CQ.out _).mono ?_
      rintro e w34 ⟨rfl, rfl⟩
      go_wp2_with fail
      with_reducible refine (CS.out _).mono ?_
      rintro e w35 ⟨rfl, rfl⟩
      go_wp2_with fail
      go_ret
      exact ⟨rfl, hc6⟩
  · have CF := Lib.hid cF; have CP := Lib.hid cP; have CR := Lib.hid cR; have CT := Lib.hid cT
    clear cF cP cR cT
    rcases hU with ⟨er, her, cU, cW⟩ | ⟨u, hul, cU, cW⟩ | ⟨u, v, hul, hvl, cU, cW, cX, cQ⟩
    · have CU := Lib.hid cU; have CW := Lib.hid cW
      clear cU cW
      have her' : (er != 0) = true := by rw [bne_iff_ne]; exact her
      clear her
      go_enter Tryd.func8, Tryd.ntmps8
      go_wp2_with fail
      with_reducible refine C0.out.mono ?_
      rintro e w1 ⟨rfl, hb1⟩
      go_wp2_with fail
      with_reducible refine (CF.out _).mono ?_
      rintro e w2 ⟨rfl, hb2⟩
      have hc2 := hb1.trans (hb2.mono hb1.size)
      go_wp2_with fail
      with_reducible refine (CP.out _).mono ?_
      rintro e w30 ⟨rfl, rfl⟩
      go_wp2_with fail
      with_reducible refine (CR.out _).mono ?_
      rintro e w31 ⟨rfl, rfl⟩
      go_wp2_with fail
      with_reducible refine (CT.out _).mono ?_
      rintro e w32 ⟨rfl, rfl⟩
      go_wp2_with fail
      with_reducible refine (CS.out _).mono ?_
      rintro e w33 ⟨rfl, rfl⟩
      go_wp2_with fail
      with_reducible refine (CU.out _ (Kit.tabs_below HT.out hc2)).mono ?_
      rintro e w4 ⟨rfl, hb4⟩
      have hc4 := hc2.trans (hb4.mono hc2.size)
      go_wp2_with fail
      with_reducible refine (CW.out _ (Kit.tabs_below HT.out hc4)).mono ?_
      rintro e w5 ⟨rfl, hb5⟩
      have hc5 := hc4.trans (hb5.mono hc4.size)
      go_wp2_with fail
      go_ret
      exact ⟨rfl, hc5⟩
    · have CU := Lib.hid cU; have CW := Lib.hid cW
      clear cU cW
      go_enter Tryd.func8, Tryd.ntmps8
      go_wp2_with fail
      with_reducible refine C0.out.mono ?_
      rintro e w1 ⟨rfl, hb1⟩
      go_wp2_with fail
      with_reducible refine (CF.out _).mono ?_
      rintro e w2 ⟨rfl, hb2⟩
      have hc2 := hb1.trans (hb2.mono hb1.size)
      go_wp2_with fail
      with_reducible refine (CP.out _).mono ?_
      rintro e w30 ⟨rfl, rfl⟩
      go_wp2_with fail
      with_reducible refine (CR.out _).mono ?_
      rintro e w31 ⟨rfl, rfl⟩
      go_wp2_with fail
      with_reducible refine (CT.out _).mono ?_
      rintro e w32 ⟨rfl, rfl⟩
      go_wp2_with fail
      with_reducible refine (CS.out _).mono ?_
      rintro e w33 ⟨rfl, rfl⟩
      go_wp2_with fail
      with_reducible refine (CU.out _ (Kit.tabs_below HT.out hc2)).mono ?_
      rintro e w4 ⟨rfl, hb4⟩
      have hc4 := hc2.trans (hb4.mono hc2.size)
      go_wp2_with fail
      with_reducible refine (CW.out _ (Kit.tabs_below HT.out hc4)).mono ?_
      rintro e w5 ⟨rfl, hb5⟩
      have hc5 := hc4.trans (hb5.mono hc4.size)
      go_wp2_with fail
      go_ret
      exact ⟨rfl, hc5⟩
    · have CU := Lib.hid cU; have CW := Lib.hid cW; have CX := Lib.hid cX; have CQ := Lib.hid cQ
      clear cU cW cX cQ
      go_enter Tryd.func8, Tryd.ntmps8
      go_wp2_with fail
      with_reducible refine C0.out.mono ?_
      rintro e w1 ⟨rfl, hb1⟩
      go_wp2_with fail
      with_reducible refine (CF.out _).mono ?_
      rintro e w2 ⟨rfl, hb2⟩
      have hc2 := hb1.trans (hb2.mono hb1.size)
      go_wp2_with fail
      with_reducible refine (CP.out _).mono ?_
      rintro e w30 ⟨rfl, rfl⟩
      go_wp2_with fail
      with_reducible refine (CR.out _).mono ?_
      rintro e w31 ⟨rfl, rfl⟩
      go_wp2_with fail
      with_reducible refine (CT.out _).mono ?_
      rintro e w32 ⟨rfl, rfl⟩
      go_wp2_with fail
      with_reducible refine (CS.out _).mono ?_
      rintro e w33 ⟨rfl, rfl⟩
      go_wp2_with fail
      with_reducible refine (CU.out _ (Kit.tabs_below HT.out hc2)).mono ?_
      rintro e w4 ⟨rfl, hb4⟩
      have hc4 := hc2.trans (hb4.mono hc2.size)
      go_wp2_with fail
      with_reducible refine (CW.out _ (Kit.tabs_below HT.out hc4)).mono ?_
      rintro e w5 ⟨rfl, hb5⟩
      have hc5 := hc4.trans (hb5.mono hc4.size)
      go_wp2_with fail
      with_reducible refine (CX.out _).mono ?_
      rintro e w6 ⟨rfl, hb6⟩
      have hc6 := hc5.trans (hb6.mono hc5.size)
      go_wp2_with fail
      with_reducible refine (CQ.out _).mono ?_
      rintro e w34 ⟨rfl, rfl⟩
      go_wp2_with fail
      with_reducible refine (CS.out _).mono ?_
      rintro e w35 ⟨rfl, rfl⟩
      go_wp2_with fail
      go_ret
      exact ⟨rfl, hc6⟩
end Go.Proofs.YtdcknfdileomoaaDoor
