/-
  The walks through the reference's Faults and Is.
-/
import Derived.Test.YthkppbimkjmbnaaGreatDoorZj
import Derived.Test.YthkppbimkjmbnaaGreatDoorZQ
import Derived.Deep.DeepCutAuto
import Derived.Test.YthkppbimkjmbnaaGreatDoorZI
namespace Go.Proofs.YthkppbimkjmbnaaGreatDoor
open Go.RowKit
open Vs (bs by_)

/-- The number at an offset, the offset and the size as numbers of their own. -/
theorem r31N_any (s : ByteArray) (a k : Nat) (A K : Int) (hA : A = (a : Int)) (hK : K = (k : Int)) (hk : k ≤ 6) (hak : a + k ≤ s.size) (hs : s.size ≤ 9223372036854775807) (w : World) :
    Calls Tryz.prog 87 #[.string s, .int .i64 A, .int .i64 K] w fun e w' => e = .returned (.int .i64 (Pm.at_ (by_ s) a k : Nat)) ∧ w = w' := by
  subst hA hK
  exact rNumber_any s a k hk hak hs w
namespace Vs
structure FR (w W : World) (v : Value) (l : List Int) : Prop where
  own : W.ownsRow w.heap.size 3 1 v l.length (Kit.izs l)
  bel : Below w.heap.size w W
theorem FR.below {w W W' : World} {v : Value} {l : List Int} (h : FR w W v l) (hb : Below W.heap.size W W') : FR w W' v l :=
  ⟨Kit.own_below h.own hb, h.bel.trans (hb.mono h.bel.size)⟩
theorem FR.app {w W : World} {ops : Array Oper} {rest : List Oper} {o : Oper} {a : Act} {Q : Exit → Act → World → Prop} {v : Value} {l : List Int} (h : FR w W v l) (hl : l.length ≤ 8) (k : Int) (hgd : o.guard = none) (s x : Operand)
    (ho : o.op = .call { callee := .builtin .append, args := #[s, x], argTypes := #[34, 34] }) (hs : a.eval s = v) (hx : a.eval x = .slice (some ⟨W.heap.size, 0, none⟩) 1 1)
    (hk : ∀ v' w', FR w w' v' (l ++ [k]) → wpList Tryz.prog ops Q rest (a.put o.dst v') w') : wpList Tryz.prog ops Q (o :: rest) a (W.alloc (.cells #[.int .i64 k] 3)) := by
  refine Kit.app intInfo rfl (by decide) hgd s x 34 ho Tryz.underlying34 w.heap.size v l.length (Kit.izs l) hs h.own [.int .i64 k] 1 1 hx rfl (Kit.one1 rfl) (by omega) h.bel.size ?_
  intro v' w' ho' hb'
  refine hk v' w' ⟨?_, h.bel.trans hb'⟩
  rw [List.length_append, Kit.izs_append]
  exact ho'
theorem FR.nil (w : World) : FR w (w.alloc (.cells #[] 3)) (.slice (some ⟨w.heap.size, 0, none⟩) 0 0) [] := ⟨Kit.own_nil w _, (Below.refl _ _).alloc (Nat.le_refl _) _⟩
end Vs

set_option maxHeartbeats 12800000 in
set_option maxRecDepth 100000 in
/-- masterdiscref31.Faults. -/
theorem r31Faults_any (s : ByteArray) (loc : Int) (w : World) (hs : s.size ≤ 9223372036854775807) :
    Calls Tryz.prog 86 #[.string s, .int .i64 loc] w fun e w' => ∃ v, e = .returned v ∧ w'.ownsRow w.heap.size 3 1 v (Vs.faultsR (by_ s) loc).length (Kit.izs (Vs.faultsR (by_ s) loc)) ∧ Below w.heap.size w w' := by
  by_cases hl : s.size < 16
  · have HR := Lib.hid (show Vs.faultsR (by_ s) loc = [1] from if_pos (by rw [Vs.by_len]; exact hl))
    rw [HR.out]
    go_enter Tryz.func86, Tryz.ntmps86
    go_wp2_with fail
    go_ret
    exact ⟨_, rfl, Kit.own_new w _ [.int .i64 1] (by decide), (Below.refl _ _).alloc (Nat.le_refl _) _⟩
  have hl16 : 16 ≤ s.size := by omega
  have N2 := Lib.hid (fun W => r31N_any s 2 2 2 2 rfl rfl (by omega) (by omega) hs W)
  have N8 := Lib.hid (fun W => r31N_any s 8 2 8 2 rfl rfl (by omega) (by omega) hs W)
  have NA := Lib.hid (fun W => r31N_any s 10 2 10 2 rfl rfl (by omega) (by omega) hs W)
  have NC := Lib.hid (fun W => r31N_any s 12 4 12 4 rfl rfl (by omega) (by omega) hs W)
  have CS := Lib.hid (fun W => r31Sum_any s hl16 hs W)
  have hbl := Vs.by_len s
  have hT4 := Kit.byt_get s 4 (by omega)
  obtain ⟨n, hn⟩ : ∃ n, Pm.at_ (by_ s) 10 2 = n := ⟨_, rfl⟩
  obtain ⟨d, hd⟩ : ∃ d, Pm.at_ (by_ s) 12 4 = d := ⟨_, rfl⟩
  obtain ⟨ve, hve⟩ : ∃ ve, Pm.at_ (by_ s) 2 2 = ve := ⟨_, rfl⟩
  obtain ⟨cr, hcr⟩ : ∃ cr, Pm.at_ (by_ s) 8 2 = cr := ⟨_, rfl⟩
  obtain ⟨T, hT⟩ : ∃ T, Vs.sumT (by_ s) = T := ⟨_, rfl⟩
  have hnb : n < 65536 := by have := Pm.at_lt (by_ s) 10 2; omega
  rw [hve] at N2
  rw [hcr] at N8
  rw [hn] at NA
  rw [hd] at NC
  rw [hT] at CS
  obtain ⟨C2, hC2⟩ : ∃ C2 : Bool, (((s[4]'(by omega)).toNat : Int) != (T : Int)) = C2 := ⟨_, rfl⟩
  obtain ⟨C6, hC6⟩ : ∃ C6 : Bool, ((d : Int) != loc) = C6 := ⟨_, rfl⟩
  have HFN := Lib.hid (Vs.FR.nil w)
  go_enter Tryz.func86, Tryz.ntmps86
  go_wp2_with fail
  generalize w.alloc (.cells #[] 3) = W1 at *
  refine Rt.tail (C := fun w' => ∃ x : Later W1.heap.size W1, w' = x.to) 4 _ rfl (by kernel_rfl) (by kernel_rfl) (by kernel_rfl) rfl (by kernel_rfl) ⟨⟨W1.drewN 1, Kit.below_drewN 1⟩, rfl⟩ ?_
  simp only [List.take_succ_cons, List.take_zero]
  repeat (any_goals (first | go_big_quiet_skip | (go_big_quiet_want; go_big_quiet_op; first | go_big_quiet_on | (apply Exists.intro; refine ⟨fun _ => ?_, ?_⟩; (first | (with_reducible exact Calls.later_drewn (CS.out _))); go_big_quiet_on))))
  refine wpQuiet_nil ?_
  intro wq hw'
  obtain ⟨⟨wz, hbq⟩, hw''⟩ := hw'
  subst hw''
  have HFQ := Lib.hid (HFN.out.below hbq)
  clear hbq HFN
  rw [hT4] at hC2
  try rw [hT4]
  have HC2 := Lib.hid hC2
  have HC6 := Lib.hid hC6
  have HAN := Lib.hid hn
  have HAV := Lib.hid hve
  have HAC := Lib.hid hcr
  have HAD := Lib.hid hd
  have HAT := Lib.hid hT
  clear hn hve hcr hd hT
  have fin : ∀ (c3 c4 c5 : Bool), (c3 = true ↔ ¬ (ve = 2 ∨ ve = 3)) → (c4 = true ↔ s.size - 16 < n) → (c4 = false → (c5 = true ↔ cr ≠ Vs.crcR (Vs.sl (by_ s) 16 n))) →
      Vs.faultsR (by_ s) loc = Vs.addF (if c4 = true then Vs.addF (Vs.addF (Vs.addF [] C2 2) c3 3) c4 4 else Vs.addF (Vs.addF (Vs.addF (Vs.addF [] C2 2) c3 3) c4 4) c5 5) C6 6 := fun c3 c4 c5 k3 k4 k5 => by
    refine Vs.faults_add (by omega) C2 c3 c4 c5 C6 ?_ ?_ ?_ ?_ ?_
    · rw [HAT.out, ← HC2.out, bne_iff_ne]
      exact ⟨fun h e => h (by rw [show Cs.byt s.data.toList 4 = T from e]), fun h e => h (by have e' : ((Cs.byt (by_ s) 4 : Nat) : Int) = T := e; omega)⟩
    · rw [HAV.out]; exact k3
    · rw [HAN.out, hbl]; exact k4
    · rw [HAN.out, HAC.out]; exact k5
    · rw [HAD.out, ← HC6.out, bne_iff_ne]
  have FIN := Lib.hid fin
  clear fin HAT HAV HAN HAC HAD hC2 hC6
  have HA0 := Lib.hid (fun l f => show Vs.addF l false f = l by simp [Vs.addF])
  have HA1 := Lib.hid (fun l f => show Vs.addF l true f = l ++ [f] by simp [Vs.addF])
  have LA := Lib.hid (show ∀ l t f, (Vs.addF l t f).length ≤ l.length + 1 from fun l t f => by unfold Vs.addF; rw [List.length_append]; split <;> simp)
  go_upto_if 17 with fail
  have hc2 := HC2.out
  go_cut [5] (fun s5 wx => Hid (Vs.FR w wx s5 (Vs.addF [] C2 2)))
  case first =>
    cases C2 with
    | false =>
      go_wp2_with fail
      go_meet
      rw [HA0.out]
      exact HFQ
    | true =>
      go_wp2_with (at_builtin; refine HFQ.out.app (by simp) 2 rfl _ _ rfl rfl rfl ?_)
      intro v' w4 h4
      go_wp2_with fail
      go_meet
      rw [HA1.out]
      exact Lib.hid h4
  case rest =>
    have HF2 := hcut
    have hL2 := LA.out [] C2 2
    clear hcut HFQ
    generalize Vs.addF [] C2 2 = L2 at *
    simp only [List.length_nil, Nat.zero_add] at hL2
    clear hc2
    generalize wc = w2 at *
    clear wc
    obtain ⟨C3, hC3, k3⟩ : ∃ C3 : Bool, Hid (C3 = (((ve : Int) != 2) && ((ve : Int) != 3))) ∧ (C3 = true ↔ ¬ (ve = 2 ∨ ve = 3)) := ⟨_, Lib.hid rfl, by rw [Bool.and_eq_true, bne_iff_ne, bne_iff_ne]; omega⟩
    have K3 := Lib.hid k3
    clear k3
    go_upto_region 7 with (with_reducible refine (N2.out _).mono ?_; rintro e wx ⟨rfl, hw⟩; subst hw)
    go_cut [28] (fun s28 wx => s28 = .bool C3 ∧ wx = w2)
    case first =>
      rcases (show ve = 2 ∨ ve = 3 ∨ (ve ≠ 2 ∧ ve ≠ 3) by omega) with hv | hv | ⟨hv, hv'⟩
      · have v2 : ((ve : Int) != 2) = false := by rw [hv]; rfl
        have hq : C3 = false := by rw [hC3.out, v2]; rfl
        go_wp2_with fail
        go_meet
        exact ⟨by rw [hq], rfl⟩
      · have v2 : ((ve : Int) != 2) = true := by rw [hv]; rfl
        have v3 : ((ve : Int) != 3) = false := by rw [hv]; rfl
        have hq : C3 = false := by rw [hC3.out, v2, v3]; rfl
        go_wp2_with fail
        go_meet
        exact ⟨by rw [hq], rfl⟩
      · have v2 : ((ve : Int) != 2) = true := by rw [bne_iff_ne]; omega
        have v3 : ((ve : Int) != 3) = true := by rw [bne_iff_ne]; omega
        have hq : C3 = true := by rw [hC3.out, v2, v3]; rfl
        go_wp2_with fail
        go_meet
        exact ⟨by rw [hq], rfl⟩
    case rest =>
      obtain ⟨rfl, rfl⟩ := hcut
      clear hC3
      go_upto_if 28 with fail
      go_cut [5] (fun s5 wx => Hid (Vs.FR w wx s5 (Vs.addF L2 C3 3)))
      case first =>
        cases C3 with
        | false =>
          go_wp2_with fail
          go_meet
          rw [HA0.out]
          exact HF2
        | true =>
          go_wp2_with (at_builtin; refine HF2.out.app (by omega) 3 rfl _ _ rfl rfl rfl ?_)
          intro v' w4 h4
          go_wp2_with fail
          go_meet
          rw [HA1.out]
          exact Lib.hid h4
      case rest =>
        have HF3 := hcut
        have hL3 := LA.out L2 C3 3
        have FIN2 := Lib.hid (fun c4 c5 h4 h5 => FIN.out C3 c4 c5 K3.out h4 h5)
        clear hcut HF2 FIN K3
        generalize Vs.addF L2 C3 3 = L3 at *
        generalize wc = w3 at *
        clear wc
        go_upto_if 38 with (with_reducible refine (NA.out _).mono ?_; rintro e wx ⟨rfl, hw⟩; subst hw)
        go_cut [5] (fun s5 wx => ∃ c4 c5 : Bool, Hid ((c4 = true ↔ s.size - 16 < n) ∧ (c4 = false → (c5 = true ↔ cr ≠ Vs.crcR (Vs.sl (by_ s) 16 n)))) ∧ Hid (Vs.FR w wx s5 (if c4 = true then Vs.addF L3 c4 4 else Vs.addF (Vs.addF L3 c4 4) c5 5)))
        case first =>
          by_cases h4 : s.size - 16 < n
          · have d4 : decide ((s.size : Int) - 16 < (n : Int)) = true := decide_eq_true (by omega)
            go_wp2_with (at_builtin; refine HF3.out.app (by omega) 4 rfl _ _ rfl rfl rfl ?_)
            intro v' w4 h4'
            go_wp2_with fail
            go_meet
            refine ⟨true, true, Lib.hid ⟨⟨fun _ => h4, fun _ => rfl⟩, fun h => by cases h⟩, ?_⟩
            rw [if_pos rfl, HA1.out]
            exact Lib.hid h4'
          · have d4 : decide ((s.size : Int) - 16 < (n : Int)) = false := decide_eq_false (by omega)
            have hn16 : 16 + n ≤ s.size := by omega
            have hn16' : (16 : Int) + (n : Int) ≤ (s.size : Int) := by omega
            have CC := Lib.hid (fun W => rCrc16_any (s.extract 16 (16 + n)) W (by rw [ByteArray.size_extract]; omega))
            have HX := Lib.hid (show Vs.crcR (s.extract 16 (16 + n)).data.toList = Vs.crcR (Vs.sl (by_ s) 16 n) by rw [Vs.bs_ext, Nat.add_sub_cancel_left]; rfl)
            rw [HX.out] at CC
            have hcl := Vs.crcR_lt (Vs.sl (by_ s) 16 n)
            generalize Vs.crcR (Vs.sl (by_ s) 16 n) = cc at *
            have H4 := Lib.hid h4
            clear HX h4
            by_cases h5 : cr = cc
            · have d5 : ((cc : Int) != (cr : Int)) = false := by rw [h5]; simp
              have H5 := Lib.hid h5
              clear h5
              go_wp2_with (first | (with_reducible refine (CC.out _).mono ?_; rintro e wx ⟨rfl, hw⟩; subst hw) | (with_reducible refine (N8.out _).mono ?_; rintro e wx ⟨rfl, hw⟩; subst hw))
              go_meet
              refine ⟨false, false, Lib.hid ⟨⟨fun h => (by cases h), fun h => absurd h H4.out⟩, fun _ => ⟨fun h => (by cases h), fun h => absurd H5.out h⟩⟩, ?_⟩
              rw [if_neg (by decide), HA0.out, HA0.out]
              exact HF3
            · have d5 : ((cc : Int) != (cr : Int)) = true := by rw [bne_iff_ne]; omega
              have H5 := Lib.hid h5
              clear h5
              go_wp2_with (first | (with_reducible refine (CC.out _).mono ?_; rintro e wx ⟨rfl, hw⟩; subst hw) | (with_reducible refine (N8.out _).mono ?_; rintro e wx ⟨rfl, hw⟩; subst hw) | (at_builtin; refine HF3.out.app (by omega) 5 rfl _ _ rfl rfl rfl ?_))
              intro v' w4 h4'
              go_wp2_with fail
              go_meet
              refine ⟨false, true, Lib.hid ⟨⟨fun h => (by cases h), fun h => absurd h H4.out⟩, fun _ => ⟨fun _ => H5.out, fun _ => rfl⟩⟩, ?_⟩
              rw [if_neg (by decide), HA0.out, HA1.out]
              exact Lib.hid h4'
        case rest =>
          obtain ⟨c4, c5, hc45, HF4⟩ := hcut
          have HR := Lib.hid (FIN2.out c4 c5 hc45.out.1 hc45.out.2)
          have hL4 : (if c4 = true then Vs.addF L3 c4 4 else Vs.addF (Vs.addF L3 c4 4) c5 5).length ≤ 4 := by
            have a := LA.out L3 c4 4
            have b := LA.out (Vs.addF L3 c4 4) c5 5
            split <;> omega
          clear hc45 HF3 FIN2
          generalize (if c4 = true then Vs.addF L3 c4 4 else Vs.addF (Vs.addF L3 c4 4) c5 5) = L4 at *
          generalize wc = w4 at *
          clear wc
          have hC6 := HC6.out
          clear HC6
          cases C6 with
          | false =>
            rw [HA0.out] at HR
            go_wp2_with (with_reducible refine (NC.out _).mono ?_; rintro e wx ⟨rfl, hw⟩; subst hw)
            go_ret
            rw [HR.out]
            exact ⟨_, rfl, HF4.out.own, HF4.out.bel⟩
          | true =>
            rw [HA1.out] at HR
            go_wp2_with (first | (with_reducible refine (NC.out _).mono ?_; rintro e wx ⟨rfl, hw⟩; subst hw) | (at_builtin; refine HF4.out.app (by omega) 6 rfl _ _ rfl rfl rfl ?_))
            intro v' w5 h5
            go_wp2_with fail
            go_ret
            rw [HR.out]
            exact ⟨_, rfl, h5.own, h5.bel⟩

end Go.Proofs.YthkppbimkjmbnaaGreatDoor

/-
  The walks through the reference's times: Time, Zone, leap, days, year, utc, Split, Stamp.
-/
namespace Go.Proofs.YthkppbimkjmbnaaGreatDoor
open Go.RowKit
open Vs (bs by_)

set_option maxHeartbeats 3200000 in
set_option maxRecDepth 100000 in
/-- masterdiscref16.leap. -/
theorem r16Leap_any (y : Int) (h0 : 0 ≤ y) (h1 : y ≤ 100000) (w : World) : Calls Tryz.prog 280 #[.int .i64 y] w fun e w' => e = .returned (.bool (Vs.leap y)) ∧ w = w' := by
  unfold Vs.leap
  by_cases b : y % 4 = 0
  · have e2 : (y % 4 == 0) = true := by rw [beq_iff_eq]; exact b
    rw [decide_eq_true b]
    clear b
    by_cases c : y % 100 = 0
    · have e3 : (y % 100 != 0) = false := by rw [c]; rfl
      rw [decide_eq_true c]
      clear c
      by_cases a : y % 400 = 0
      · have e1 : (y % 400 == 0) = true := by rw [beq_iff_eq]; exact a
        rw [decide_eq_true a]
        clear a
        go_enter Tryz.func280, Tryz.ntmps280
        go_wp2_with fail
        go_ret
        exact ⟨rfl, rfl⟩
      · have e1 : (y % 400 == 0) = false := by rw [beq_eq_false_iff_ne]; exact a
        rw [decide_eq_false a]
        clear a
        go_enter Tryz.func280, Tryz.ntmps280
        go_wp2_with fail
        go_ret
        exact ⟨rfl, rfl⟩
    · have e3 : (y % 100 != 0) = true := by rw [bne_iff_ne]; exact c
      rw [decide_eq_false c]
      rw [show (decide (y % 400 = 0) || (true && !false)) = true by simp]
      clear c
      go_enter Tryz.func280, Tryz.ntmps280
      go_wp2_with fail
      go_ret
      exact ⟨rfl, rfl⟩
  · have e2 : (y % 4 == 0) = false := by rw [beq_eq_false_iff_ne]; exact b
    rw [decide_eq_false b, decide_eq_false (show ¬ y % 400 = 0 by omega)]
    clear b
    go_enter Tryz.func280, Tryz.ntmps280
    go_wp2_with fail
    go_ret
    exact ⟨rfl, rfl⟩

set_option maxHeartbeats 1600000 in
set_option maxRecDepth 100000 in
/-- masterdiscref16.year. -/
theorem r16Year_any (y : Int) (h0 : 0 ≤ y) (h1 : y ≤ 100000) (w : World) : Calls Tryz.prog 281 #[.int .i64 y] w fun e w' => e = .returned (.int .i64 (Vs.ydays y)) ∧ w = w' := by
  have CL := Lib.hid (fun W => r16Leap_any y h0 h1 W)
  unfold Vs.ydays
  cases hl : Vs.leap y with
  | true =>
    rw [hl] at CL
    rw [if_pos rfl]
    clear hl
    go_enter Tryz.func281, Tryz.ntmps281
    go_wp2_with fail
    with_reducible refine (CL.out _).mono ?_
    rintro e w2 ⟨rfl, rfl⟩
    go_wp2_with fail
    go_ret
    exact ⟨rfl, rfl⟩
  | false =>
    rw [hl] at CL
    rw [if_neg (by decide)]
    clear hl
    go_enter Tryz.func281, Tryz.ntmps281
    go_wp2_with fail
    with_reducible refine (CL.out _).mono ?_
    rintro e w2 ⟨rfl, rfl⟩
    go_wp2_with fail
    go_ret
    exact ⟨rfl, rfl⟩

set_option maxHeartbeats 6400000 in
set_option maxRecDepth 100000 in
/-- masterdiscref16.days. -/
theorem r16Days_any (y m : Int) (h0 : 0 ≤ y) (h1 : y ≤ 100000) (w : World) : Calls Tryz.prog 261 #[.int .i64 y, .int .i64 m] w fun e w' => e = .returned (.int .i64 (Vs.mdays y m)) ∧ w = w' := by
  have CL := Lib.hid (fun W => r16Leap_any y h0 h1 W)
  have HR := Lib.hid (show Vs.mdays y m = if m = 2 then (if Vs.leap y = true then 29 else 28) else if m = 4 ∨ m = 6 ∨ m = 9 ∨ m = 11 then 30 else 31 from rfl)
  rw [HR.out]
  clear HR
  by_cases a2 : m = 2
  · subst a2
    rw [if_pos rfl]
    cases hl : Vs.leap y with
    | true =>
      rw [hl] at CL
      rw [if_pos rfl]
      clear hl
      go_enter Tryz.func261, Tryz.ntmps261
      go_wp2_with fail
      with_reducible refine (CL.out _).mono ?_
      rintro e w2 ⟨rfl, rfl⟩
      go_wp2_with fail
      go_ret
      exact ⟨rfl, rfl⟩
    | false =>
      rw [hl] at CL
      rw [if_neg (by decide)]
      clear hl
      go_enter Tryz.func261, Tryz.ntmps261
      go_wp2_with fail
      with_reducible refine (CL.out _).mono ?_
      rintro e w2 ⟨rfl, rfl⟩
      go_wp2_with fail
      go_ret
      exact ⟨rfl, rfl⟩
  · have b2 : (m == 2) = false := by rw [beq_eq_false_iff_ne]; exact a2
    rw [if_neg a2]
    clear CL
    by_cases a4 : m = 4
    · rw [if_pos (.inl a4)]
      subst a4
      go_enter Tryz.func261, Tryz.ntmps261
      go_wp2_with fail
      go_ret
      exact ⟨rfl, rfl⟩
    have b4 : (m == 4) = false := by rw [beq_eq_false_iff_ne]; exact a4
    by_cases a6 : m = 6
    · rw [if_pos (.inr (.inl a6))]
      subst a6
      go_enter Tryz.func261, Tryz.ntmps261
      go_wp2_with fail
      go_ret
      exact ⟨rfl, rfl⟩
    have b6 : (m == 6) = false := by rw [beq_eq_false_iff_ne]; exact a6
    by_cases a9 : m = 9
    · rw [if_pos (.inr (.inr (.inl a9)))]
      subst a9
      go_enter Tryz.func261, Tryz.ntmps261
      go_wp2_with fail
      go_ret
      exact ⟨rfl, rfl⟩
    have b9 : (m == 9) = false := by rw [beq_eq_false_iff_ne]; exact a9
    by_cases a11 : m = 11
    · rw [if_pos (.inr (.inr (.inr a11)))]
      subst a11
      go_enter Tryz.func261, Tryz.ntmps261
      go_wp2_with fail
      go_ret
      exact ⟨rfl, rfl⟩
    have b11 : (m == 11) = false := by rw [beq_eq_false_iff_ne]; exact a11
    rw [if_neg (by omega)]
    clear a2 a4 a6 a9 a11
    go_enter Tryz.func261, Tryz.ntmps261
    go_wp2_with fail
    go_ret
    exact ⟨rfl, rfl⟩

set_option maxHeartbeats 1600000 in
set_option maxRecDepth 100000 in
/-- masterdiscref16.Time. -/
theorem r16Time_any (t : Int) (w : World) : Calls Tryz.prog 263 #[.int .i64 t] w fun e w' => e = .returned (.bool (Vs.isTime t)) ∧ w = w' := by
  unfold Vs.isTime
  by_cases h1 : 315532800 ≤ t <;> by_cases h2 : t ≤ 4102444799
  all_goals
    first | rw [decide_eq_true h1] | rw [decide_eq_false h1]
    first | rw [decide_eq_true h2] | rw [decide_eq_false h2]
    go_enter Tryz.func263, Tryz.ntmps263
    go_wp2
    go_ret
    exact ⟨rfl, rfl⟩

set_option maxHeartbeats 1600000 in
set_option maxRecDepth 100000 in
/-- masterdiscref16.Zone. -/
theorem r16Zone_any (t : Int) (w : World) : Calls Tryz.prog 210 #[.int .i64 t] w fun e w' => e = .returned (.bool (decide (-1440 ≤ t) && decide (t ≤ 1440))) ∧ w = w' := by
  by_cases h1 : -1440 ≤ t <;> by_cases h2 : t ≤ 1440
  all_goals
    first | rw [decide_eq_true h1] | rw [decide_eq_false h1]
    first | rw [decide_eq_true h2] | rw [decide_eq_false h2]
    go_enter Tryz.func210, Tryz.ntmps210
    go_wp2
    go_ret
    exact ⟨rfl, rfl⟩

namespace Vs
end Vs

namespace Vs
end Vs

end Go.Proofs.YthkppbimkjmbnaaGreatDoor
