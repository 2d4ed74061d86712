/-
  The walks through the reference's Bytes, Number, Pad, Ints, word.
-/
import Derived.Test.YtlcdhlfkffkifaaGreatDoorZC
import Derived.Test.YtlcdhlfkffkifaaGreatDoorZA
import Derived.Test.YtlcdhlfkffkifaaGreatDoorZB
namespace Go.Proofs.YtlcdhlfkffkifaaGreatDoor
open Go.RowKit
namespace Pm
theorem le_snoc (k n : Nat) : le (k + 1) n = le k n ++ [UInt8.ofNat (n / 256 ^ k)] := by
  induction k generalizing n with
  | zero => simp [le]
  | succ k ih =>
    rw [le, ih (n / 256), le, List.cons_append, Nat.div_div_eq_div_mul, Nat.pow_succ, Nat.mul_comm 256]
theorem u8_256 (n : Nat) : UInt8.ofNat (n % 256) = UInt8.ofNat n := by
  apply UInt8.toNat_inj.1
  simp [UInt8.toNat_ofNat']
theorem at_cons (s : List UInt8) (a m : Nat) (h : a < s.length) : at_ s a (m + 1) = Cs.byt s a + 256 * at_ s (a + 1) m := by
  unfold at_
  rw [List.drop_eq_getElem_cons h, List.take_succ_cons, num]
  congr 1
  unfold Cs.byt
  simp [List.getD, h]
end Pm

set_option maxHeartbeats 1600000 in
set_option maxRecDepth 100000 in
/-- masterdiscref01.Bytes. -/
theorem rBytes_any (n : Nat) (k : Nat) (hk : k ≤ 4096) (hn : n ≤ 9223372036854775807) (w : World) :
    Calls Tryz.prog 55 #[.int .i64 (n : Int), .int .i64 (k : Int)] w fun e w' => e = .returned (.string ⟨(Pm.le k n).toArray⟩) ∧ Below w.heap.size w w' := by
  have HND := Lib.hid (fun j : Nat => Nat.div_le_self n (256 ^ j))
  go_enter Tryz.func55, Tryz.ntmps55
  go_wp2_with fail
  go_loopw [0, 5, 6] (fun nv ov iv wr => ∃ j : Nat, j ≤ k ∧ iv = .int .i64 j ∧ nv = .int .i64 (n / 256 ^ j : Nat) ∧ wr.ownsRow w.heap.size 5 1 ov j (Kit.bytes (Pm.le j n)) ∧ Below w.heap.size w wr) (fun _ _ iv _ => k - (intOf iv).toNat)
  case atStart => exact ⟨0, by omega, rfl, by simp, Kit.own_empty w _, (Below.refl _ _).alloc (Nat.le_refl _) _⟩
  case round =>
    obtain ⟨j, hj, rfl, rfl, hown, hbw⟩ := hrel
    have HOWN := Lib.hid hown
    clear hown
    have hsz := hbw.size
    by_cases hlt : j < k
    · have hle := Pm.le_snoc j n
      have hdd : n / 256 ^ (j + 1) = n / 256 ^ j / 256 := by rw [Nat.pow_succ, Nat.div_div_eq_div_mul]
      have hmax := HND.out j
      have hm : IntKind.u8.wrap ((n / 256 ^ j : Nat) : Int) = ((n / 256 ^ j % 256 : Nat) : Int) := by rw [IntKind.wrap_u8]; omega
      have hmm := Pm.u8_256 (n / 256 ^ j)
      have HLE := Lib.hid hle
      have HDD := Lib.hid hdd
      clear hle hdd
      generalize n / 256 ^ j = q at *
      have h256 : q % 256 < 256 := Nat.mod_lt _ (by decide)
      have hq0 : (q : Int) ≤ 9223372036854775807 := by omega
      have HMM := Lib.hid hmm
      clear hmm hmax hm
      go_wp2_with (at_builtin; refine Kit.app byteInfo rfl (by decide) rfl _ _ 111 rfl Tryz.underlying111 w.heap.size _ _ _ rfl HOWN.out [_] 1 1 rfl rfl (Kit.one1 rfl) ?c1 hsz ?_)
      case c1 => omega
      intro v' w4 hown' hb4
      have e1 : ((q : Int) % 256) = ((q % 256 : Nat) : Int) := by omega
      have HOWN' := Lib.hid hown'
      clear hown'
      go_wp2_with fail
      go_roundw
      case rel => exact ⟨j + 1, by omega, by go_num, by rw [HDD.out]; first | rfl | (congr 1; omega), by
        have h := HOWN'.out
        have h' := Kit.snoc_byte (l := Pm.le j n) (x := (q : Int) % 256) (by simpa using h) (by omega) (by omega)
        rw [HLE.out]
        rw [e1, Int.toNat_natCast, HMM.out] at h'
        exact h', hbw.trans hb4⟩
      case measure => simp [intOf]; omega
    · obtain rfl : j = k := by omega
      have hcv := Kit.str_own (l := Pm.le j n) HOWN.out
      go_wp2_with fail
      go_ret
      exact ⟨rfl, hbw⟩

set_option maxHeartbeats 1600000 in
set_option maxRecDepth 100000 in
/-- masterdiscref31.Number. -/
theorem rNumber_any (s : ByteArray) (a k : Nat) (hk : k ≤ 6) (hak : a + k ≤ s.size) (hs : s.size ≤ 9223372036854775807) (w : World) :
    Calls Tryz.prog 62 #[.string s, .int .i64 (a : Int), .int .i64 (k : Int)] w fun e w' => e = .returned (.int .i64 (Pm.at_ s.data.toList a k : Nat)) ∧ w = w' := by
  have hpow : ∀ m, m ≤ 6 → 256 ^ m ≤ 281474976710656 := fun m hm => Nat.le_trans (Nat.pow_le_pow_right (by decide) hm) (by decide)
  have HP := Lib.hid hpow
  clear hpow
  go_enter Tryz.func62, Tryz.ntmps62
  go_wp2_with fail
  go_loop [7, 8] (fun nv iv => ∃ j : Nat, j ≤ k ∧ iv = .int .i64 ((j : Int) - 1) ∧ nv = .int .i64 (Pm.at_ s.data.toList (a + j) (k - j) : Nat)) (fun _ iv => (intOf iv + 1).toNat)
  case atStart => exact ⟨k, by omega, rfl, by simp [Pm.at_, Pm.num]⟩
  case round =>
    obtain ⟨j, hj, rfl, rfl⟩ := hrel
    by_cases hlt : 0 < j
    · obtain ⟨i, rfl⟩ : ∃ i, j = i + 1 := ⟨j - 1, by omega⟩
      have hb := Kit.byt_get s (a + i) (by omega)
      have hbl := Cs.byt_lt s.data.toList (a + i)
      have hc := Pm.at_cons s.data.toList (a + i) (k - (i + 1)) (by rw [Kit.len_size]; omega)
      rw [show k - (i + 1) + 1 = k - i by omega, show a + i + 1 = a + (i + 1) by omega] at hc
      have hlt' := Pm.at_lt s.data.toList (a + (i + 1)) (k - (i + 1))
      have hp := HP.out (k - (i + 1)) (by omega)
      have HC := Lib.hid hc
      clear hc
      generalize Pm.at_ s.data.toList (a + (i + 1)) (k - (i + 1)) = q at *
      have hq : q < 281474976710656 := Nat.lt_of_lt_of_le hlt' hp
      clear hlt' hp
      generalize Cs.byt s.data.toList (a + i) = x at *
      have hi : a + i < s.size := by omega
      have e1 : ((i + 1 : Nat) : Int) - 1 = (i : Int) := by omega
      rw [e1]
      clear e1
      go_wp2_with fail
      go_round
      case rel => exact ⟨i, by omega, by first | rfl | go_num, by rw [HC.out]; congr 1; omega⟩
      case measure => simp [intOf]
    · obtain rfl : j = 0 := by omega
      simp only [Nat.add_zero, Nat.sub_zero]
      go_wp2_with fail
      go_ret
      exact ⟨rfl, rfl⟩

set_option maxHeartbeats 1600000 in
set_option maxRecDepth 100000 in
/-- masterdiscref31.Pad. -/
theorem rPad_any (l : List UInt8) (k : Nat) (hk : k ≤ 65536) (hl : l.length ≤ 65536) (w : World) :
    Calls Tryz.prog 58 #[.string ⟨l.toArray⟩, .int .i64 (k : Int)] w fun e w' => e = .returned (.string ⟨(l ++ List.replicate (k - l.length) 0).toArray⟩) ∧ Below w.heap.size w w' := by
  have cZ := fun W => vZeros_any ((k : Int) - (l.length : Int)) (by omega) (by omega) W
  have hz : ((k : Int) - (l.length : Int)).toNat = k - l.length := by omega
  rw [hz] at cZ
  have hrl : (List.replicate (k - l.length) (0 : UInt8)).length ≤ 65536 := by simp; omega
  generalize List.replicate (k - l.length) (0 : UInt8) = r at *
  have CZ := Lib.hid cZ
  clear cZ hz
  go_enter Tryz.func58, Tryz.ntmps58
  go_wp2_with fail
  with_reducible refine (CZ.out _).mono ?_
  rintro e w2 ⟨rfl, hb2⟩
  go_wp2_with fail
  go_ret
  exact ⟨congrArg (fun s => Ending.returned (.string s)) (Kit.append_mk l r), hb2⟩

set_option maxHeartbeats 1600000 in
/-- masterdiscref37.word. -/
theorem rWord_any (n : Int) (w : World) : Calls Tryz.prog 85 #[.int .i64 n] w fun e w' => e = .returned (.bool (Pm.word n)) ∧ w = w' := by
  unfold Pm.word
  by_cases h0 : 0 ≤ n
  · go_enter Tryz.func85, Tryz.ntmps85
    go_wp2
    go_ret
    refine ⟨congrArg (fun b => Ending.returned (.bool b)) ?_, rfl⟩
    simp [h0]
  · have h0' : decide (0 ≤ n) = false := by simpa using h0
    rw [h0']
    go_enter Tryz.func85, Tryz.ntmps85
    go_wp2
    go_ret
    exact ⟨rfl, rfl⟩
end Go.Proofs.YtlcdhlfkffkifaaGreatDoor

/-
  The walk through the reference's Map.
-/
namespace Go.Proofs.YtlcdhlfkffkifaaGreatDoor
open Go.RowKit
namespace Pm
theorem valid_no5 {x : M} (h : x.tables.all word = false) : valid x = false := by
  rw [Bool.eq_false_iff]; intro hv
  simp only [valid, Bool.and_eq_true] at hv
  rw [hv.1.1.1.2] at h
  cases h
theorem valid_end {x : M} (h1 : 0 ≤ x.kind ∧ x.kind ≤ 3 ∧ 0 ≤ x.number ∧ x.number ≤ 65535) (h2 : if x.kind = 2 then 1 ≤ x.tables.length ∧ x.tables.length ≤ 4 else x.tables.length = 0) (h3 : x.tables.all word = true) :
    valid x = if x.kind = 3 then (word x.file && word x.mirror && word x.bitmap) else three x := by
  unfold valid
  rw [decide_eq_true h1.1, decide_eq_true h1.2.1, decide_eq_true h1.2.2.1, decide_eq_true h1.2.2.2, h3]
  have e2 : (if x.kind = 2 then decide (1 ≤ x.tables.length) && decide (x.tables.length ≤ 4) else decide (x.tables.length = 0)) = true := by
    split at h2
    · rename_i hk; rw [if_pos hk]; simp [h2]
    · rename_i hk; rw [if_neg hk]; simp [h2]
  rw [e2]
  split
  · simp
  · unfold three
    by_cases ht : (decide (x.file = 0) && (decide (x.mirror = 0) && decide (x.bitmap = 0))) = true
    · rw [ht]
      simp only [Bool.and_eq_true, decide_eq_true_eq] at ht
      rw [ht.1, ht.2.1, ht.2.2]
      decide
    · rw [Bool.not_eq_true] at ht
      rw [ht]
      simp
end Pm

set_option maxHeartbeats 6400000 in
set_option maxRecDepth 100000 in
/-- masterdiscref37.Map. -/
theorem rMap_any (x : Pm.M) (tv : Value) (w : World) (hr : Kit.RowS w tv (Kit.izs x.tables)) (hl : x.tables.length ≤ 17592186044413) :
    Calls Tryz.prog 54 #[Pm.pmV x tv] w fun e w' => e = .returned (.bool (Pm.valid x)) ∧ Below w.heap.size w w' := by
  have HRow := Lib.hid hr
  have hv1 := @Pm.valid_no1 x
  have hv2 := @Pm.valid_no2 x
  have hv3 := @Pm.valid_no3 x
  have hv5 := @Pm.valid_no5 x
  have hv6 := @Pm.valid_end x
  unfold Pm.pmV
  unfold Pm.three at hv6
  obtain ⟨k, n, t, f, m, b⟩ := x
  simp only [] at *
  obtain ⟨⟨A, c, rfl, hlc, hcm, _⟩, _⟩ := hr
  rw [Kit.izs_length] at *
  unfold maxLen at hcm
  generalize Pm.valid ⟨k, n, t, f, m, b⟩ = V at *
  by_cases g1 : k < 0 ∨ 3 < k ∨ n < 0 ∨ 65535 < n
  · have HV := Lib.hid (hv1 g1)
    clear hv1 hv2 hv3 hv5 hv6
    have hcs : k < 0 ∨ (¬ k < 0 ∧ 3 < k) ∨ (¬ k < 0 ∧ ¬ 3 < k ∧ n < 0) ∨ (¬ k < 0 ∧ ¬ 3 < k ∧ ¬ n < 0 ∧ 65535 < n) := by omega
    clear g1
    rcases hcs with k1 | ⟨k1, k2⟩ | ⟨k1, k2, k3⟩ | ⟨k1, k2, k3, k4⟩
    all_goals
      go_enter Tryz.func54, Tryz.ntmps54
      go_wp2_with fail
      go_ret
      rw [HV.out]
      exact ⟨rfl, (Below.refl _ _).alloc (Nat.le_refl _) _⟩
  have k1 : 0 ≤ k := by omega
  have k2 : k ≤ 3 := by omega
  have k3 : 0 ≤ n := by omega
  have k4 : n ≤ 65535 := by omega
  have d1 : decide (k < 0) = false := decide_eq_false (by omega)
  have d2 : decide (3 < k) = false := decide_eq_false (by omega)
  have d3 : decide (n < 0) = false := decide_eq_false (by omega)
  have d4 : decide (65535 < n) = false := decide_eq_false (by omega)
  have HV2 := Lib.hid hv2; have HV3 := Lib.hid hv3; have HV5 := Lib.hid hv5; have HV6 := Lib.hid (hv6 ⟨k1, k2, k3, k4⟩)
  clear g1 hv1 hv2 hv3 hv5 hv6
  go_enter Tryz.func54, Tryz.ntmps54
  go_wp2_with fail
  go_loop [3] (fun iv => ∃ j : Nat, j ≤ t.length ∧ iv = .int .i64 j ∧ Hid ((t.take j).all Pm.word = true)) (fun iv => t.length - (intOf iv).toNat)
  case atStart => exact ⟨0, by omega, rfl, Lib.hid rfl⟩
  case round =>
    obtain ⟨j, hj, rfl, HA⟩ := hrel
    by_cases hlt : j < t.length
    · obtain ⟨b', o', c', hv', hbw', hcj⟩ := HRow.out.1.at_izs hlt
      obtain ⟨rfl, _, rfl⟩ : A = some ⟨b', o', none⟩ ∧ t.length = t.length ∧ c = c' := by simpa using hv'
      clear hv'
      have hcr : (w.alloc (.cells #[.int .i64 k, .int .i64 n, .slice (some ⟨b', o', none⟩) t.length c, .int .i64 f, .int .i64 m, .int .i64 b] 59)).cell? ⟨b', o' + j, none⟩ = some (.int .i64 (t.getD j 0)) := (((Below.refl _ w).alloc (Nat.le_refl _) _).cell (p := ⟨b', o' + j, none⟩) hbw').trans hcj
      have CP := Lib.hid (fun W => rWord_any (t.getD j 0) W)
      have hsn : Pm.word (t.getD j 0) = true → (t.take (j + 1)).all Pm.word = true := fun hp => by
        rw [List.take_succ_eq_append_getElem hlt, List.all_append, HA.out]
        simp [List.getD, hlt] at hp
        simp [hp]
      have hfa : Pm.word (t.getD j 0) = false → t.all Pm.word = false := fun hp => by
        rw [Bool.eq_false_iff]
        intro h
        have := List.all_eq_true.1 h (t.getD j 0) (by simp [List.getD, hlt])
        rw [hp] at this
        cases this
      clear hcj
      cases hp : Pm.word (t.getD j 0) with
      | true =>
        have HN := Lib.hid (hsn hp)
        rw [hp] at CP
        clear hp hsn hfa
        generalize t.getD j 0 = x at *
        go_wp2_with fail
        with_reducible refine (CP.out _).mono ?_
        rintro e w2 ⟨rfl, rfl⟩
        go_wp2_with fail
        go_round
        case rel => exact ⟨j + 1, by omega, by go_num, HN⟩
        case measure => simp [intOf]; omega
      | false =>
        have HN := Lib.hid (HV5.out (hfa hp))
        rw [hp] at CP
        clear hp hsn hfa
        generalize t.getD j 0 = x at *
        go_wp2_with fail
        with_reducible refine (CP.out _).mono ?_
        rintro e w2 ⟨rfl, rfl⟩
        go_wp2_with fail
        go_ret
        rw [HN.out]
        exact ⟨rfl, (Below.refl _ _).alloc (Nat.le_refl _) _⟩
    · obtain rfl : j = t.length := by omega
      have ha := HA.out
      rw [List.take_length] at ha
      have HAA := Lib.hid ha
      clear ha HA HRow
      have CF := Lib.hid (fun W => rWord_any f W)
      have CM := Lib.hid (fun W => rWord_any m W)
      have CB := Lib.hid (fun W => rWord_any b W)
      by_cases hk2 : k = 2
      · by_cases g2 : t.length < 1 ∨ 4 < t.length
        · have HV := Lib.hid (HV2.out hk2 g2)
          clear HV2 HV3 HV5 HV6 HAA CF CM CB
          subst hk2
          have hcs : (t.length : Int) < 1 ∨ (¬ (t.length : Int) < 1 ∧ 4 < (t.length : Int)) := by omega
          clear g2
          rcases hcs with k5 | ⟨k5, k6⟩
          all_goals
            go_wp2_with fail
            go_ret
            rw [HV.out]
            exact ⟨rfl, (Below.refl _ _).alloc (Nat.le_refl _) _⟩
        · have k5 : 1 ≤ t.length := by omega
          have k6 : t.length ≤ 4 := by omega
          have d5 : decide ((t.length : Int) < 1) = false := decide_eq_false (by omega)
          have d6 : decide (4 < (t.length : Int)) = false := decide_eq_false (by omega)
          clear g2
          have hv' := (HV6.out (by rw [if_pos hk2]; exact ⟨k5, k6⟩) HAA.out).trans (if_neg (by omega))
          clear HV2 HV3 HV5 HV6 HAA CF CM CB
          subst hk2
          have hv := hv'
          clear hv'
          by_cases f0 : f = 0
          · by_cases m0 : m = 0
            · by_cases b0 : b = 0
              · have HV := Lib.hid (show V = true by rw [hv, f0, m0, b0]; rfl)
                clear hv
                subst f0 m0 b0
                go_wp2_with fail
                go_ret
                rw [HV.out]
                exact ⟨rfl, (Below.refl _ _).alloc (Nat.le_refl _) _⟩
              · have HV := Lib.hid (show V = false by rw [hv, decide_eq_false b0]; simp)
                have e3 : (b == 0) = false := by rw [beq_eq_false_iff_ne]; exact b0
                clear hv b0
                subst f0 m0
                go_wp2_with fail
                go_ret
                rw [HV.out]
                exact ⟨rfl, (Below.refl _ _).alloc (Nat.le_refl _) _⟩
            · have HV := Lib.hid (show V = false by rw [hv, decide_eq_false m0]; simp)
              have e3 : (m == 0) = false := by rw [beq_eq_false_iff_ne]; exact m0
              clear hv m0
              subst f0
              go_wp2_with fail
              go_ret
              rw [HV.out]
              exact ⟨rfl, (Below.refl _ _).alloc (Nat.le_refl _) _⟩
          · have HV := Lib.hid (show V = false by rw [hv, decide_eq_false f0]; simp)
            have e3 : (f == 0) = false := by rw [beq_eq_false_iff_ne]; exact f0
            clear hv f0
            go_wp2_with fail
            go_ret
            rw [HV.out]
            exact ⟨rfl, (Below.refl _ _).alloc (Nat.le_refl _) _⟩
      · have d7 : (k == 2) = false := by rw [beq_eq_false_iff_ne]; exact hk2
        by_cases g2 : 0 < t.length
        · have HV := Lib.hid (HV3.out hk2 g2)
          clear HV2 HV3 HV5 HV6 HAA CF CM CB
          have k5 : 0 < (t.length : Int) := by omega
          have d8 : decide (0 < (t.length : Int)) = true := decide_eq_true k5
          clear g2 hk2
          go_wp2_with fail
          go_ret
          rw [HV.out]
          exact ⟨rfl, (Below.refl _ _).alloc (Nat.le_refl _) _⟩
        · have hl0 : t.length = 0 := by omega
          have d8 : decide (0 < (t.length : Int)) = false := decide_eq_false (by omega)
          have d8' : ¬ 0 < (t.length : Int) := by omega
          clear g2
          by_cases hk3 : k = 3
          · have Hl0 := Lib.hid hl0
            have hv := (HV6.out (by rw [if_neg hk2]; exact hl0) HAA.out).trans (if_pos hk3)
            clear HV2 HV3 HV5 HV6 HAA hk2
            clear hl0
            subst hk3
            generalize Pm.word f = wf at *
            generalize Pm.word m = wm at *
            generalize Pm.word b = wb at *
            cases wf with
            | false =>
              have HV := Lib.hid (show V = false by rw [hv]; rfl)
              clear hv
              go_wp2_with fail
              with_reducible refine (CF.out _).mono ?_
              rintro e w2 ⟨rfl, rfl⟩
              go_wp2_with fail
              go_ret
              rw [HV.out]
              exact ⟨rfl, (Below.refl _ _).alloc (Nat.le_refl _) _⟩
            | true =>
              cases wm with
              | false =>
                have HV := Lib.hid (show V = false by rw [hv]; rfl)
                clear hv
                go_wp2_with fail
                with_reducible refine (CF.out _).mono ?_
                rintro e w2 ⟨rfl, rfl⟩
                go_wp2_with fail
                with_reducible refine (CM.out _).mono ?_
                rintro e w2 ⟨rfl, rfl⟩
                go_wp2_with fail
                go_ret
                rw [HV.out]
                exact ⟨rfl, (Below.refl _ _).alloc (Nat.le_refl _) _⟩
              | true =>
                have HV := Lib.hid (show V = wb by rw [hv]; rfl)
                clear hv
                go_wp2_with fail
                with_reducible refine (CF.out _).mono ?_
                rintro e w2 ⟨rfl, rfl⟩
                go_wp2_with fail
                with_reducible refine (CM.out _).mono ?_
                rintro e w2 ⟨rfl, rfl⟩
                go_wp2_with fail
                with_reducible refine (CB.out _).mono ?_
                rintro e w2 ⟨rfl, rfl⟩
                go_wp2_with fail
                go_ret
                rw [HV.out]
                exact ⟨rfl, (Below.refl _ _).alloc (Nat.le_refl _) _⟩
          · have d9 : (k == 3) = false := by rw [beq_eq_false_iff_ne]; exact hk3
            have hv' := (HV6.out (by rw [if_neg hk2]; exact hl0) HAA.out).trans (if_neg hk3)
            clear HV2 HV3 HV5 HV6 HAA CF CM CB hk2 hk3 hl0
            have hv := hv'
            clear hv'
            by_cases f0 : f = 0
            · by_cases m0 : m = 0
              · by_cases b0 : b = 0
                · have HV := Lib.hid (show V = true by rw [hv, f0, m0, b0]; rfl)
                  clear hv
                  subst f0 m0 b0
                  go_wp2_with fail
                  go_ret
                  rw [HV.out]
                  exact ⟨rfl, (Below.refl _ _).alloc (Nat.le_refl _) _⟩
                · have HV := Lib.hid (show V = false by rw [hv, decide_eq_false b0]; simp)
                  have e3 : (b == 0) = false := by rw [beq_eq_false_iff_ne]; exact b0
                  clear hv b0
                  subst f0 m0
                  go_wp2_with fail
                  go_ret
                  rw [HV.out]
                  exact ⟨rfl, (Below.refl _ _).alloc (Nat.le_refl _) _⟩
              · have HV := Lib.hid (show V = false by rw [hv, decide_eq_false m0]; simp)
                have e3 : (m == 0) = false := by rw [beq_eq_false_iff_ne]; exact m0
                clear hv m0
                subst f0
                go_wp2_with fail
                go_ret
                rw [HV.out]
                exact ⟨rfl, (Below.refl _ _).alloc (Nat.le_refl _) _⟩
            · have HV := Lib.hid (show V = false by rw [hv, decide_eq_false f0]; simp)
              have e3 : (f == 0) = false := by rw [beq_eq_false_iff_ne]; exact f0
              clear hv f0
              go_wp2_with fail
              go_ret
              rw [HV.out]
              exact ⟨rfl, (Below.refl _ _).alloc (Nat.le_refl _) _⟩
end Go.Proofs.YtlcdhlfkffkifaaGreatDoor

/-
  The walks through the reference's Valid and FewMaps, and Ints and SameMaps of equal lists.
-/
namespace Go.Proofs.YtlcdhlfkffkifaaGreatDoor
open Go.RowKit

set_option maxHeartbeats 3200000 in
set_option maxRecDepth 100000 in
/-- masterdiscref37.Valid. -/
theorem rValid_any (v : Value) (l : List Pm.M) (T : Nat → Value) (w : World) (hm : Pm.MapsAt w v l T) (hf : Pm.Few l) :
    Calls Tryz.prog 29 #[v] w fun e w' => e = .returned (.bool (Pm.all l)) ∧ Below w.heap.size w w' := by
  have HM := Lib.hid hm
  have HF := Lib.hid hf
  have hl8 := hf.1
  obtain ⟨A, c, rfl, hlc, hcm, hcells⟩ := hm.row
  have HCE := Lib.hid hcells
  clear hcells hm hf
  unfold maxLen at hcm
  go_enter Tryz.func29, Tryz.ntmps29
  go_wp2_with fail
  go_loopw [3] (fun iv wr => ∃ j : Nat, j ≤ l.length ∧ iv = .int .i64 j ∧ Hid ((l.take j).all Pm.valid = true) ∧ Below w.heap.size w wr) (fun iv _ => l.length - (intOf iv).toNat)
  case atStart => exact ⟨0, by omega, rfl, Lib.hid rfl, Below.refl _ _⟩
  case round =>
    obtain ⟨j, hj, rfl, HA, hbw⟩ := hrel
    by_cases hlt : j < l.length
    · obtain ⟨b, o, rfl, hbl, hc⟩ := HCE.out (by omega)
      obtain ⟨c0, c1, c2, c3, c4, c5⟩ := Pm.six hbl hbw (hc j hlt)
      have hr := (HM.out.tabs j hlt).below hbw
      have CP := Lib.hid (fun W h => rMap_any (l.getD j Pm.none) (T j) W h (Nat.le_trans (HF.out.2 j hlt) (by decide)))
      have hall := all_snocM (p := Pm.valid) hlt HA.out
      have hfail := all_failM (p := Pm.valid) hlt
      clear hc
      generalize l.getD j Pm.none = x at *
      generalize T j = tv at *
      have HRT := Lib.hid hr
      obtain ⟨⟨A', c', rfl, _, _, _⟩, _⟩ := hr
      unfold Pm.pmV at CP
      cases hp : Pm.valid x with
      | true =>
        have HN := Lib.hid (hall hp)
        rw [hp] at CP
        clear hp hall hfail
        obtain ⟨k, n, t, f, m, bb⟩ := x
        simp only [] at *
        go_wp2_with fail
        with_reducible refine (CP.out _ HRT.out).mono ?_
        rintro e w2 ⟨rfl, hb2⟩
        go_wp2_with fail
        go_roundw
        case rel => exact ⟨j + 1, by omega, by go_num, HN, hbw.trans (hb2.mono hbw.size)⟩
        case measure => simp [intOf]; omega
      | false =>
        have HN := Lib.hid (show Pm.all l = false by unfold Pm.all; rw [hfail hp]; simp)
        rw [hp] at CP
        clear hp hall hfail
        obtain ⟨k, n, t, f, m, bb⟩ := x
        simp only [] at *
        go_wp2_with fail
        with_reducible refine (CP.out _ HRT.out).mono ?_
        rintro e w2 ⟨rfl, hb2⟩
        go_wp2_with fail
        go_ret
        rw [HN.out]
        exact ⟨rfl, hbw.trans (hb2.mono hbw.size)⟩
    · obtain rfl : j = l.length := by omega
      have ha := HA.out
      rw [List.take_length] at ha
      by_cases h4 : l.length ≤ 4
      · have HH := Lib.hid (show Pm.all l = true by unfold Pm.all; rw [ha, decide_eq_true h4]; rfl)
        have d4 : decide ((l.length : Int) ≤ 4) = true := decide_eq_true (by omega)
        clear ha
        go_wp2_with fail
        go_ret
        rw [HH.out]
        exact ⟨rfl, hbw⟩
      · have HH := Lib.hid (show Pm.all l = false by unfold Pm.all; rw [decide_eq_false h4]; rfl)
        have d4 : decide ((l.length : Int) ≤ 4) = false := decide_eq_false (by omega)
        clear ha
        go_wp2_with fail
        go_ret
        rw [HH.out]
        exact ⟨rfl, hbw⟩

namespace Pm
/-- Few maps, as a Bool. -/
def fewB (l : List M) : Bool := l.all (fun x => decide (x.tables.length ≤ 8)) && decide (l.length ≤ 8)
theorem few_of {l : List M} (h : fewB l = true) : Few l := by
  unfold fewB at h
  rw [Bool.and_eq_true, decide_eq_true_eq] at h
  refine ⟨h.2, fun j hj => ?_⟩
  have := List.all_eq_true.1 h.1 (l.getD j none) (by simp [List.getD, hj])
  simpa using this
end Pm

set_option maxHeartbeats 3200000 in
set_option maxRecDepth 100000 in
/-- masterdiscref37.FewMaps. -/
theorem fewMaps_any (v : Value) (l : List Pm.M) (T : Nat → Value) (w : World) (hm : Pm.MapsAt w v l T) :
    Calls Tryz.prog 10 #[v] w fun e w' => e = .returned (.bool (Pm.fewB l)) ∧ w = w' := by
  have HM := Lib.hid hm
  obtain ⟨A, c, rfl, hlc, hcm, hcells⟩ := hm.row
  have HCE := Lib.hid hcells
  clear hcells hm
  unfold maxLen at hcm
  have hl63 : l.length ≤ 9223372036854775807 := by omega
  go_enter Tryz.func10, Tryz.ntmps10
  go_wp2_with fail
  go_loop [3] (fun iv => ∃ j : Nat, j ≤ l.length ∧ iv = .int .i64 j ∧ Hid ((l.take j).all (fun x => decide (x.tables.length ≤ 8)) = true)) (fun iv => l.length - (intOf iv).toNat)
  case atStart => exact ⟨0, by omega, rfl, Lib.hid rfl⟩
  case round =>
    obtain ⟨j, hj, rfl, HA⟩ := hrel
    by_cases hlt : j < l.length
    · obtain ⟨b, o, rfl, hbl, hc⟩ := HCE.out (by omega)
      obtain ⟨_, _, c2, _, _, _⟩ := Pm.six hbl (Below.refl _ w) (hc j hlt)
      have hr := HM.out.tabs j hlt
      have hall := all_snocM (p := fun x => decide (x.tables.length ≤ 8)) hlt HA.out
      have hfail := all_failM (p := fun x => decide (x.tables.length ≤ 8)) hlt
      clear hc
      generalize l.getD j Pm.none = x at *
      generalize T j = tv at *
      obtain ⟨⟨A', c', rfl, _, hcm', _⟩, _⟩ := hr
      rw [Kit.izs_length] at *
      generalize x.tables.length = tn at *
      by_cases h8 : tn ≤ 8
      · have HN := Lib.hid (hall (decide_eq_true h8))
        have d8 : decide (8 < (tn : Int)) = false := decide_eq_false (by omega)
        have d8' : ¬ (8 < (tn : Int)) := by omega
        clear hall hfail
        go_wp2_with fail
        go_round
        case rel => exact ⟨j + 1, by omega, by go_num, HN⟩
        case measure => simp [intOf]; omega
      · have HN := Lib.hid (show Pm.fewB l = false by unfold Pm.fewB; rw [hfail (decide_eq_false h8)]; rfl)
        have d8 : decide (8 < (tn : Int)) = true := decide_eq_true (by omega)
        have d8' : 8 < (tn : Int) := by omega
        clear hall hfail
        go_wp2_with fail
        go_ret
        rw [HN.out]
        exact ⟨rfl, rfl⟩
    · obtain rfl : j = l.length := by omega
      have ha := HA.out
      rw [List.take_length] at ha
      by_cases h4 : l.length ≤ 8
      · have HH := Lib.hid (show Pm.fewB l = true by unfold Pm.fewB; rw [ha, decide_eq_true h4]; rfl)
        have d4 : decide ((l.length : Int) ≤ 8) = true := decide_eq_true (by omega)
        clear ha
        go_wp2_with fail
        go_ret
        rw [HH.out]
        exact ⟨rfl, rfl⟩
      · have HH := Lib.hid (show Pm.fewB l = false by unfold Pm.fewB; rw [decide_eq_false h4]; simp)
        have d4 : decide ((l.length : Int) ≤ 8) = false := decide_eq_false (by omega)
        clear ha
        go_wp2_with fail
        go_ret
        rw [HH.out]
        exact ⟨rfl, rfl⟩

set_option maxHeartbeats 3200000 in
set_option maxRecDepth 100000 in
/-- masterdiscref01.Ints of equal lists. -/
theorem rInts_same (v1 v2 : Value) (zs : List Int) (w : World) (h1 : Kit.RowS w v1 (Kit.izs zs)) (h2 : Kit.RowS w v2 (Kit.izs zs)) :
    Calls Tryz.prog 33 #[v1, v2] w fun e w' => e = .returned (.bool true) ∧ ∃ n, w' = w.drewN n := by
  have H1 := Lib.hid h1.1
  have H2 := Lib.hid h2.1
  obtain ⟨⟨A1, c1, rfl, hl1, hm1, _⟩, _⟩ := h1
  obtain ⟨⟨A2, c2, rfl, hl2, hm2, _⟩, _⟩ := h2
  rw [Kit.izs_length] at *
  unfold maxLen at hm1 hm2
  have hne : ((zs.length : Int) != (zs.length : Int)) = false := by simp
  go_enter Tryz.func33, Tryz.ntmps33
  go_wp2_with fail
  go_loopw [5] (fun iv wr => ∃ j q : Nat, j ≤ zs.length ∧ iv = .int .i64 j ∧ wr = w.drewN q) (fun iv _ => zs.length - (intOf iv).toNat)
  case atStart => exact ⟨0, 0, by omega, rfl, rfl⟩
  case round =>
    obtain ⟨j, q, hj, rfl, rfl⟩ := hrel
    by_cases hlt : j < zs.length
    · obtain ⟨b1, o1, c1', hv1, _, g1⟩ := H1.out.at_izs hlt
      obtain ⟨b2, o2, c2', hv2, _, g2⟩ := H2.out.at_izs hlt
      obtain ⟨rfl, _, rfl⟩ : A1 = some ⟨b1, o1, none⟩ ∧ zs.length = zs.length ∧ c1 = c1' := by simpa using hv1
      obtain ⟨rfl, _, rfl⟩ : A2 = some ⟨b2, o2, none⟩ ∧ zs.length = zs.length ∧ c2 = c2' := by simpa using hv2
      clear hv1 hv2
      generalize zs.getD j 0 = x at *
      have hlt' : (j : Int) < (zs.length : Int) := by omega
      have hxx : (x != x) = false := by simp
      go_wp2_with fail
      go_quiet (fail)
      go_wp2_with fail
      go_roundw
      case rel => exact ⟨j + 1, q + nq, by omega, by go_num, rfl⟩
      case measure => simp [intOf]; omega
    · obtain rfl : j = zs.length := by omega
      go_wp2_with fail
      go_ret
      exact ⟨rfl, q, rfl⟩
end Go.Proofs.YtlcdhlfkffkifaaGreatDoor

/-
  The walk through the reference's SameMaps of equal lists.
-/
namespace Go.Proofs.YtlcdhlfkffkifaaGreatDoor
open Go.RowKit

set_option maxHeartbeats 6400000 in
set_option maxRecDepth 100000 in
/-- masterdiscref37.SameMaps of equal lists. -/
theorem sameMaps_any (v1 v2 : Value) (l : List Pm.M) (T1 T2 : Nat → Value) (w : World) (h1 : Pm.MapsAt w v1 l T1) (h2 : Pm.MapsAt w v2 l T2) :
    Calls Tryz.prog 15 #[v1, v2] w fun e w' => e = .returned (.bool true) ∧ Below w.heap.size w w' := by
  have H1 := Lib.hid h1
  have H2 := Lib.hid h2
  obtain ⟨A1, c1, rfl, hl1, hm1, hce1⟩ := h1.row
  obtain ⟨A2, c2, rfl, hl2, hm2, hce2⟩ := h2.row
  have HC1 := Lib.hid hce1
  have HC2 := Lib.hid hce2
  clear hce1 hce2 h1 h2
  unfold maxLen at hm1 hm2
  have hne : ((l.length : Int) != (l.length : Int)) = false := by simp
  go_enter Tryz.func15, Tryz.ntmps15
  go_wp2_with fail
  go_loopw [5] (fun iv wr => ∃ j : Nat, j ≤ l.length ∧ iv = .int .i64 j ∧ Below w.heap.size w wr) (fun iv _ => l.length - (intOf iv).toNat)
  case atStart => exact ⟨0, by omega, rfl, Below.refl _ _⟩
  case round =>
    obtain ⟨j, hj, rfl, hbw⟩ := hrel
    by_cases hlt : j < l.length
    · obtain ⟨b1, o1, rfl, hb1, g1⟩ := HC1.out (by omega)
      obtain ⟨b2, o2, rfl, hb2, g2⟩ := HC2.out (by omega)
      obtain ⟨c10, c11, c12, c13, c14, c15⟩ := Pm.six hb1 hbw (g1 j hlt)
      obtain ⟨c20, c21, c22, c23, c24, c25⟩ := Pm.six hb2 hbw (g2 j hlt)
      have hr1 := (H1.out.tabs j hlt).below hbw
      have hr2 := (H2.out.tabs j hlt).below hbw
      clear g1 g2
      generalize T1 j = t1 at *
      generalize T2 j = t2 at *
      generalize l.getD j Pm.none = x at *
      have CI := Lib.hid (fun n => rInts_same t1 t2 x.tables (wr.drewN n) hr1 hr2)
      obtain ⟨⟨A1', c1', rfl, _, _, _⟩, _⟩ := hr1
      obtain ⟨⟨A2', c2', rfl, _, _, _⟩, _⟩ := hr2
      obtain ⟨k, n, t, f, m, b⟩ := x
      simp only [] at *
      have hlt' : (j : Int) < (l.length : Int) := by omega
      have n1 : (k != k) = false := by simp
      have n2 : (n != n) = false := by simp
      have n3 : (f != f) = false := by simp
      have n4 : (m != m) = false := by simp
      have n5 : (b != b) = false := by simp
      go_wp2_with fail
      refine wp_region_quiet_lit (by kernel_rfl) (by kernel_rfl) ?_
      repeat (first | go_big_quiet_skip | (go_big_quiet_want; go_big_quiet_op; first | go_big_quiet_on | (apply Exists.intro; refine ⟨fun _ => ?_, ?_⟩; (exact Calls.quiet_of (CI.out _)); go_big_quiet_on)))
      refine wpQuiet_nil ?_
      intro wq hw'
      obtain ⟨nq, hw''⟩ := hw'
      have HB2 := Lib.hid (show Below w.heap.size w wq by rw [hw'']; exact Kit.Below.drewN hbw nq)
      clear hw''
      go_wp2_with fail
      go_roundw
      case rel => exact ⟨j + 1, by omega, by go_num, HB2.out⟩
      case measure => simp [intOf]; omega
    · obtain rfl : j = l.length := by omega
      go_wp2_with fail
      go_ret
      exact ⟨rfl, hbw⟩
end Go.Proofs.YtlcdhlfkffkifaaGreatDoor
