/-
  The walks through the reference of layer 17: what its functions return, for any string.
-/
import Derived.Test.YthkppbimkjmbnaaGreatDoorZI
namespace Go.Proofs.YthkppbimkjmbnaaGreatDoor
open Go.RowKit

set_option maxHeartbeats 400000 in
/-- masterdiscref17.Character. -/
theorem rCharacter_any (n : Int) (w : World) : Calls Tryz.prog 250 #[.int .i64 n] w fun e w' => e = .returned (.bool (Cs.isChar n)) ∧ w = w' := by
  by_cases h1 : 32 ≤ n <;> by_cases h2 : n ≤ 65533 <;> by_cases h3 : n < 55296 <;> by_cases h4 : 57343 < n
  all_goals
    go_enter Tryz.func250, Tryz.ntmps250
    go_wp2
    go_ret
    refine ⟨congrArg (fun b => Ending.returned (.bool b)) ?_, rfl⟩
    unfold Cs.isChar
    simp [*]

set_option maxHeartbeats 400000 in
/-- masterdiscref17.encode of a number that fits in two bytes. -/
theorem rEncode_any (n : Int) (w : World) (h0 : 0 ≤ n) (h1 : n ≤ 65535) : Calls Tryz.prog 251 #[.int .i64 n] w fun e w' => e = .returned (.string ⟨(Cs.enc n).toArray⟩) ∧ Below w.heap.size w w' := by
  have hb := Cs.encZ_byte n h0 h1
  have cv := Kit.str_new (P := Tryz.prog) w 126 9 5 (Cs.encZ n) (Cs.encZ n).length Tryz.underlying126 Tryz.underlying5 Tryz.underlying9 hb rfl
  unfold Cs.enc
  unfold Cs.encZ at cv ⊢
  clear hb
  by_cases a : n < 128
  · rw [if_pos a] at cv ⊢
    simp only [List.map_cons, List.map_nil, List.length_cons, List.length_nil, Nat.zero_add] at cv
    go_enter Tryz.func251, Tryz.ntmps251
    go_wp2
    go_ret
    exact ⟨rfl, (Below.refl _ _).alloc (Nat.le_refl _) _⟩
  · by_cases b : n < 2048
    · rw [if_neg a, if_pos b] at cv ⊢
      simp only [List.map_cons, List.map_nil, List.length_cons, List.length_nil, Nat.zero_add, Nat.reduceAdd] at cv
      go_enter Tryz.func251, Tryz.ntmps251
      go_wp2
      go_ret
      exact ⟨rfl, (Below.refl _ _).alloc (Nat.le_refl _) _⟩
    · rw [if_neg a, if_neg b] at cv ⊢
      simp only [List.map_cons, List.map_nil, List.length_cons, List.length_nil, Nat.zero_add, Nat.reduceAdd] at cv
      go_enter Tryz.func251, Tryz.ntmps251
      go_wp2
      go_ret
      exact ⟨rfl, (Below.refl _ _).alloc (Nat.le_refl _) _⟩

theorem num_bd (l : List UInt8) (k : Nat) (h : Cs.isChar (Cs.num l k) = true) : 0 ≤ Cs.num l k ∧ Cs.num l k ≤ 65535 := by
  have := (Cs.isChar_iff _).1 h
  omega

theorem byt_get (s : ByteArray) (i : Nat) (h : i < s.size) : (s[i]'h).toNat = Cs.byt s.data.toList i := by
  unfold Cs.byt
  have h' : i < s.data.size := h
  simp only [List.getD, Array.getElem?_toList, Array.getElem?_eq_getElem h']
  rfl

theorem fits_test (s : ByteArray) (k : Nat) (hk : k ≤ s.size) (N : Int) (hN : Cs.num s.data.toList k = N) (hc : Cs.isChar N = true) (b : Bool) (h : (Cs.enc N == (s.extract 0 k).toList) = b) : Cs.fits s.data.toList k = b := by
  subst hN
  rw [Cs.fits_eq _ _ (by simpa using hk) hc, ← h, Lib.toList_data, Lib.extract_data]
  simp only [List.drop_zero, Nat.sub_zero]
  rw [Bool.eq_iff_iff]
  simp

theorem no_more {l : List UInt8} {k : Nat} (h : ∀ j, 1 ≤ j → j < k → Cs.fits l j = false) (hk : Cs.fits l k = false) : ∀ j, 1 ≤ j → j < k + 1 → Cs.fits l j = false := by
  intro j a b
  by_cases hj : j = k
  · rw [hj]; exact hk
  · exact h j a (by omega)

/-- What 'first' returns when the first k bytes are those of a character. -/
theorem first_ret (s : ByteArray) (h0 : 0 < s.size) (k : Nat) (h1 : 1 ≤ k) (h3 : k ≤ 3) (N : Int) (hN : Cs.num s.data.toList k = N) (hc : Cs.isChar N = true)
    (hno : ∀ j, 1 ≤ j → j < k → Cs.fits s.data.toList j = false) (hf : Cs.fits s.data.toList k = true) :
    Ending.returned (.tuple #[.int .i64 N, .int .i64 (k : Int)]) = .returned (.tuple #[.int .i64 (Cs.fr s.data.toList).1, .int .i64 (Cs.fr s.data.toList).2]) := by
  have hN0 := (Cs.isChar_iff N).1 hc
  rw [Cs.fr_of _ (by simpa using h0) k h1 h3 hno hf, hN, Int.toNat_of_nonneg (by omega)]

set_option maxHeartbeats 3200000 in
set_option maxRecDepth 100000 in
/-- masterdiscref17.first. -/
theorem rFirst_any (s : ByteArray) (w : World) (h0 : 0 < s.size) :
    Calls Tryz.prog 201 #[.string s] w fun e w' => e = .returned (.tuple #[.int .i64 (Cs.fr s.data.toList).1, .int .i64 (Cs.fr s.data.toList).2]) ∧ Below w.heap.size w w' := by
  have hfr := Cs.dec_fits s.data.toList (by simpa using h0)
  have HFR := Lib.hid hfr
  clear hfr
  go_enter Tryz.func201, Tryz.ntmps201
  go_wp2_with fail
  go_loopw [4] (fun v wr => ∃ k : Nat, 1 ≤ k ∧ k ≤ 4 ∧ v = .int .i64 k ∧ Hid (∀ j, 1 ≤ j → j < k → Cs.fits s.data.toList j = false) ∧ Below w.heap.size w wr) (fun v _ => 4 - (intOf v).toNat)
  case atStart => exact ⟨1, by omega, by omega, rfl, Lib.hid (fun j a b => by omega), Below.refl _ _⟩
  case round =>
    obtain ⟨k, hk1, hk4, rfl, HNO, hbw⟩ := hrel
    by_cases hk : k ≤ 3 ∧ k ≤ s.size
    · obtain ⟨hk3, hks⟩ := hk
      have hz : (0 : Int) < (s.size : Int) := by omega
      have b0 := byt_get s 0 h0
      have l0 := Cs.byt_lt s.data.toList 0; have l1 := Cs.byt_lt s.data.toList 1; have l2 := Cs.byt_lt s.data.toList 2
      have hk123 : k = 1 ∨ k = 2 ∨ k = 3 := by omega
      have cC := fun W => rCharacter_any (Cs.num s.data.toList k) W
      have cE := fun W h0 h1 => rEncode_any (Cs.num s.data.toList k) W h0 h1
      have e1 : Cs.num s.data.toList 1 = Cs.byt s.data.toList 0 := rfl
      have e2 : Cs.num s.data.toList 2 = ((Cs.byt s.data.toList 0 : Int) - 192) * 64 + Cs.byt s.data.toList 1 - 128 := rfl
      have e3 : Cs.num s.data.toList 3 = ((Cs.byt s.data.toList 0 : Int) - 224) * 4096 + ((Cs.byt s.data.toList 1 : Int) - 128) * 64 + Cs.byt s.data.toList 2 - 128 := rfl
      by_cases hic : Cs.isChar (Cs.num s.data.toList k) = true
      · have hbd := num_bd _ _ hic
        have cE' := fun W => cE W hbd.1 hbd.2
        simp only [hic] at cC
        have CC := Lib.hid cC
        have CE := Lib.hid cE'
        have HIC := Lib.hid hic
        clear cC cE hic cE' hbd
        rcases hk123 with rfl | rfl | rfl
        · have hE := e1
          rw [e1] at CC CE HIC
          have HE := Lib.hid hE
          clear e1 e2 e3 hE
          go_wp2_with fail
          go_region_with (first | (go_at_call 250; refine (CC.out _).mono ?_; rintro e w2 ⟨rfl, rfl⟩) | (go_at_call 251; refine (CE.out _).mono ?_; rintro e w3 ⟨rfl, hb3⟩))
          go_wp2_with fail
          · have ht := fits_test s 1 hks _ HE.out HIC.out true (by assumption)
            go_ret2
            exact ⟨first_ret s h0 1 (by omega) (by omega) _ HE.out HIC.out HNO.out ht, hbw.drew.trans (hb3.mono hbw.size)⟩
          · have ht := fits_test s 1 hks _ HE.out HIC.out false (by assumption)
            have HTT := Lib.hid ht
            clear ht
            go_roundw
            case rel => exact ⟨2, by omega, by omega, rfl, Lib.hid (no_more HNO.out HTT.out), hbw.drew.trans (hb3.mono hbw.size)⟩
            case measure => simp [intOf]
        · have hE := e2
          rw [e2] at CC CE HIC
          have HE := Lib.hid hE
          clear e1 e2 e3 hE
          have b1 := byt_get s 1 (by omega)
          go_wp2_with fail
          go_quiet (fail)
          have hbq := Kit.Below.drewN hbw nq
          generalize wr.drewN nq = wq at hbq ⊢
          go_wp2_with fail
          go_region_with (first | (go_at_call 250; refine (CC.out _).mono ?_; rintro e w2 ⟨rfl, rfl⟩) | (go_at_call 251; refine (CE.out _).mono ?_; rintro e w3 ⟨rfl, hb3⟩))
          go_wp2_with fail
          · have ht := fits_test s 2 hks _ HE.out HIC.out true (by assumption)
            go_ret2
            exact ⟨first_ret s h0 2 (by omega) (by omega) _ HE.out HIC.out HNO.out ht, hbq.drew.trans (hb3.mono hbq.size)⟩
          · have ht := fits_test s 2 hks _ HE.out HIC.out false (by assumption)
            have HTT := Lib.hid ht
            clear ht
            go_roundw
            case rel => exact ⟨3, by omega, by omega, rfl, Lib.hid (no_more HNO.out HTT.out), hbq.drew.trans (hb3.mono hbq.size)⟩
            case measure => simp [intOf]
        · have hE := e3
          rw [e3] at CC CE HIC
          have HE := Lib.hid hE
          clear e1 e2 e3 hE
          have b1 := byt_get s 1 (by omega)
          have b2 := byt_get s 2 hks
          go_wp2_with fail
          go_quiet (fail)
          have hbq := Kit.Below.drewN hbw nq
          generalize wr.drewN nq = wq at hbq ⊢
          go_wp2_with fail
          go_region_with (first | (go_at_call 250; refine (CC.out _).mono ?_; rintro e w2 ⟨rfl, rfl⟩) | (go_at_call 251; refine (CE.out _).mono ?_; rintro e w3 ⟨rfl, hb3⟩))
          go_wp2_with fail
          · have ht := fits_test s 3 hks _ HE.out HIC.out true (by assumption)
            go_ret2
            exact ⟨first_ret s h0 3 (by omega) (by omega) _ HE.out HIC.out HNO.out ht, hbq.drew.trans (hb3.mono hbq.size)⟩
          · have ht := fits_test s 3 hks _ HE.out HIC.out false (by assumption)
            have HTT := Lib.hid ht
            clear ht
            go_roundw
            case rel => exact ⟨4, by omega, by omega, rfl, Lib.hid (no_more HNO.out HTT.out), hbq.drew.trans (hb3.mono hbq.size)⟩
            case measure => simp [intOf]
      · have hic' : Cs.isChar (Cs.num s.data.toList k) = false := by simpa using hic
        have HF := Lib.hid (Cs.fits_no _ _ hic')
        simp only [hic'] at cC
        have CC := Lib.hid cC
        clear cC cE hic hic'
        rcases hk123 with rfl | rfl | rfl
        · rw [e1] at CC
          clear e1 e2 e3
          go_wp2_with fail
          go_quiet ((go_at_call 250; exact Calls.quiet_of_same ((CC.out _).mono fun _ _ h => ⟨h.1, h.2.symm⟩)))
          go_wp2_with fail
          go_roundw
          case rel => exact ⟨2, by omega, by omega, rfl, Lib.hid (no_more HNO.out HF.out), Kit.Below.drewN hbw _⟩
          case measure => simp [intOf]
        · rw [e2] at CC
          clear e1 e2 e3
          have b1 := byt_get s 1 (by omega)
          go_wp2_with fail
          go_quiet (fail)
          have hbq := Kit.Below.drewN hbw nq
          generalize wr.drewN nq = wq at hbq ⊢
          go_wp2_with fail
          go_quiet ((go_at_call 250; exact Calls.quiet_of_same ((CC.out _).mono fun _ _ h => ⟨h.1, h.2.symm⟩)))
          go_wp2_with fail
          go_roundw
          case rel => exact ⟨3, by omega, by omega, rfl, Lib.hid (no_more HNO.out HF.out), Kit.Below.drewN hbq _⟩
          case measure => simp [intOf]
        · rw [e3] at CC
          clear e1 e2 e3
          have b1 := byt_get s 1 (by omega)
          have b2 := byt_get s 2 hks
          go_wp2_with fail
          go_quiet (fail)
          have hbq := Kit.Below.drewN hbw nq
          generalize wr.drewN nq = wq at hbq ⊢
          go_wp2_with fail
          go_quiet ((go_at_call 250; exact Calls.quiet_of_same ((CC.out _).mono fun _ _ h => ⟨h.1, h.2.symm⟩)))
          go_wp2_with fail
          go_roundw
          case rel => exact ⟨4, by omega, by omega, rfl, Lib.hid (no_more HNO.out HF.out), Kit.Below.drewN hbq _⟩
          case measure => simp [intOf]
    · have hz : ¬ ((k : Int) ≤ 3 ∧ (k : Int) ≤ (s.size : Int)) := by omega
      have hfr : Cs.fr s.data.toList = (0, 0) := Cs.fr_none _ (by simpa using h0) fun j a b => by
        by_cases hj : j < k
        · exact HNO.out j a hj
        · exact Cs.fits_long _ _ (by simp; omega)
      have HR := Lib.hid hfr
      clear hfr
      by_cases hk3 : k ≤ 3
      · have hz2 : ¬ (k : Int) ≤ (s.size : Int) := by omega
        have hz3 : (k : Int) ≤ 3 := by omega
        clear hz hk
        go_wp2_with fail
        go_ret2
        exact ⟨by rw [HR.out]; rfl, hbw⟩
      · have hz3 : ¬ (k : Int) ≤ 3 := by omega
        clear hz hk
        go_wp2_with fail
        go_ret2
        exact ⟨by rw [HR.out]; rfl, hbw⟩
end Go.Proofs.YthkppbimkjmbnaaGreatDoor
