/-
  The walks through the translator's ways: physical, virtual, sparable.
-/
import Derived.Test.YtlcdhlfkffkifaaGreatDoorZC
import Derived.Test.YtlcdhlfkffkifaaGreatDoorZA
import Derived.Test.YtlcdhlfkffkifaaGreatDoorZB
namespace Go.Proofs.YtlcdhlfkffkifaaGreatDoor
open Go.RowKit
namespace Pm
/-- A mapping's value. -/
def mpV (m : Mp) (v0 v1 v2 v3 v4 : Value) : Value := .agg #[v0, .int .i64 m.start, .int .i64 m.count, v1, v2, v3, v4]
/-- The spares' cells. -/
def spC (x : Int × Int) : List Value := [.int .i64 x.1, .int .i64 x.2]
/-- A mapping's parts, as what they read. -/
structure MpAt (w : World) (m : Mp) (v1 v2 : Value) : Prop where
  vat : Kit.Row w v1 (Kit.izs m.vat)
  spares : Kit.RowN w v2 2 m.spares.length (fun j => spC (m.spares.getD j (0, 0)))
theorem MpAt.below {w w' : World} {m : Mp} {v1 v2 : Value} (h : MpAt w m v1 v2) (hb : Below w.heap.size w w') : MpAt w' m v1 v2 := ⟨h.vat.below hb, h.spares.below hb⟩
/-- What bounds a mapping's numbers. -/
structure MpFew (m : Mp) : Prop where
  s0 : -1099511627776 ≤ m.start
  s1 : m.start ≤ 1099511627776
  c1 : m.count ≤ 1099511627776
  vats : m.vat.length ≤ 100
  sps : m.spares.length ≤ 20
  vat : ∀ x ∈ m.vat, -9223372036854775808 ≤ x ∧ x ≤ 9223372036854775807
  sp : ∀ x ∈ m.spares, -1099511627776 ≤ x.2 ∧ x.2 ≤ 1099511627776
end Pm

set_option maxHeartbeats 3200000 in
set_option maxRecDepth 100000 in
/-- translator.physical. -/
theorem physical_any (m : Pm.Mp) (A0 A1 A2 A3 A4 : Option Addr) (n0 n1 n2 n3 n4 c0 c1 c2 c3 c4 : Nat) (b : Int) (w : World) (hm : Pm.MpFew m) :
    Calls Tryz.prog 40 #[Pm.mpV m (.slice A0 n0 c0) (.slice A1 n1 c1) (.slice A2 n2 c2) (.slice A3 n3 c3) (.slice A4 n4 c4), .int .i64 b] w fun e w' => e = .returned (.tuple #[.int .i64 (Pm.phys m b).1, .int .i64 (Pm.phys m b).2]) ∧ Below w.heap.size w w' := by
  have hs0 := hm.s0
  have hs1 := hm.s1
  have hc1 := hm.c1
  clear hm
  unfold Pm.mpV
  have hP := Lib.hid (show Pm.phys m b = if b < 0 ∨ m.count ≤ b then (0, 2) else (m.start + b, 0) from rfl)
  generalize Pm.phys m b = P at *
  obtain ⟨maps, s, n, vat, sps, me⟩ := m
  simp only [] at *
  by_cases h0 : b < 0
  · have HP := Lib.hid (show P = (0, 2) by rw [hP.out, if_pos (Or.inl h0)])
    clear hP
    have d0 : decide (b < 0) = true := decide_eq_true h0
    go_enter Tryz.func40, Tryz.ntmps40
    go_wp2_with fail
    go_ret2
    rw [HP.out]
    exact ⟨rfl, (Below.refl _ _).alloc (Nat.le_refl _) _⟩
  · have d0 : decide (b < 0) = false := decide_eq_false h0
    by_cases h1 : n ≤ b
    · have HP := Lib.hid (show P = (0, 2) by rw [hP.out, if_pos (Or.inr h1)])
      clear hP
      have d1 : decide (n ≤ b) = true := decide_eq_true h1
      go_enter Tryz.func40, Tryz.ntmps40
      go_wp2_with fail
      go_ret2
      rw [HP.out]
      exact ⟨rfl, (Below.refl _ _).alloc (Nat.le_refl _) _⟩
    · have HP := Lib.hid (show P = (s + b, 0) by rw [hP.out, if_neg (by omega)])
      clear hP
      have d1 : decide (n ≤ b) = false := decide_eq_false h1
      go_enter Tryz.func40, Tryz.ntmps40
      go_wp2_with fail
      go_ret2
      rw [HP.out]
      refine ⟨?_, (Below.refl _ _).alloc (Nat.le_refl _) _⟩
      go_num

set_option maxHeartbeats 3200000 in
set_option maxRecDepth 100000 in
/-- translator.virtual. -/
theorem virtual_any (m : Pm.Mp) (A0 A2 A3 A4 : Option Addr) (n0 n2 n3 n4 c0 c2 c3 c4 : Nat) (v1 : Value) (b : Int) (w : World) (hm : Pm.MpFew m) (ha : Kit.Row w v1 (Kit.izs m.vat)) (hb0 : -9223372036854775808 ≤ b) (hb1 : b ≤ 9223372036854775807) :
    Calls Tryz.prog 41 #[Pm.mpV m (.slice A0 n0 c0) v1 (.slice A2 n2 c2) (.slice A3 n3 c3) (.slice A4 n4 c4), .int .i64 b] w fun e w' => e = .returned (.tuple #[.int .i64 (if b < 0 ∨ (m.vat.length : Int) ≤ b then (0, 2) else if m.vat.getD b.toNat 0 = 4294967295 then (0, 6) else Pm.phys m (m.vat.getD b.toNat 0)).1, .int .i64 (if b < 0 ∨ (m.vat.length : Int) ≤ b then ((0 : Int), (2 : Int)) else if m.vat.getD b.toNat 0 = 4294967295 then (0, 6) else Pm.phys m (m.vat.getD b.toNat 0)).2]) ∧ Below w.heap.size w w' := by
  have hvl := hm.vats
  have HA := Lib.hid ha
  obtain ⟨A1, c1, rfl, hlc, hcm, _⟩ := ha
  rw [Kit.izs_length] at *
  unfold maxLen at hcm
  generalize hP : (if b < 0 ∨ (m.vat.length : Int) ≤ b then ((0 : Int), (2 : Int)) else if m.vat.getD b.toNat 0 = 4294967295 then (0, 6) else Pm.phys m (m.vat.getD b.toNat 0)) = P
  by_cases h0 : b < 0
  · have HP := Lib.hid (show P = (0, 2) by rw [← hP, if_pos (Or.inl h0)])
    clear hP hm
    have d0 : decide (b < 0) = true := decide_eq_true h0
    unfold Pm.mpV
    obtain ⟨maps, s, n, vat, sps, me⟩ := m
    simp only [] at *
    go_enter Tryz.func41, Tryz.ntmps41
    go_wp2_with fail
    go_ret2
    rw [HP.out]
    exact ⟨rfl, (Below.refl _ _).alloc (Nat.le_refl _) _⟩
  · have d0 : decide (b < 0) = false := decide_eq_false h0
    by_cases h1 : (m.vat.length : Int) ≤ b
    · have HP := Lib.hid (show P = (0, 2) by rw [← hP, if_pos (Or.inr h1)])
      clear hP hm
      have d1 : decide ((m.vat.length : Int) ≤ b) = true := decide_eq_true h1
      unfold Pm.mpV
      obtain ⟨maps, s, n, vat, sps, me⟩ := m
      simp only [] at *
      go_enter Tryz.func41, Tryz.ntmps41
      go_wp2_with fail
      go_ret2
      rw [HP.out]
      exact ⟨rfl, (Below.refl _ _).alloc (Nat.le_refl _) _⟩
    · have d1 : decide ((m.vat.length : Int) ≤ b) = false := decide_eq_false h1
      have hj : b.toNat < m.vat.length := by omega
      have hbj : b = (b.toNat : Int) := by omega
      obtain ⟨g, o, c', hv', hbw', hcj⟩ := HA.out.at_izs hj
      obtain ⟨rfl, _, rfl⟩ : A1 = some ⟨g, o, none⟩ ∧ m.vat.length = m.vat.length ∧ c1 = c' := by simpa using hv'
      clear hv'
      rw [if_neg (by omega)] at hP
      generalize b.toNat = j at *
      subst hbj
      have CP := Lib.hid (fun x W => physical_any m A0 (some ⟨g, o, none⟩) A2 A3 A4 n0 m.vat.length n2 n3 n4 c0 c1 c2 c3 c4 x W hm)
      have hx := hm.vat (m.vat.getD j 0) (by simp [List.getD, hj])
      clear hm
      unfold Pm.mpV at *
      have HP := Lib.hid hP
      clear hP
      generalize m.vat.getD j 0 = x at *
      by_cases h2 : x = 4294967295
      · have HP2 : Hid (P = (0, 6)) := Lib.hid (by rw [← HP.out, if_pos h2])
        clear HP
        obtain ⟨maps, s, n, vat, sps, me⟩ := m
        simp only [] at *
        subst h2
        go_enter Tryz.func41, Tryz.ntmps41
        go_wp2_with fail
        go_ret2
        rw [HP2.out]
        exact ⟨rfl, (Below.refl _ _).alloc (Nat.le_refl _) _⟩
      · have HP2 : Hid (P = Pm.phys m x) := Lib.hid (by rw [← HP.out, if_neg h2])
        clear HP
        have d2 : decide (x = 4294967295) = false := decide_eq_false h2
        have C2 := Lib.hid (CP.out x)
        clear CP
        generalize Pm.phys m x = R at *
        obtain ⟨maps, s, n, vat, sps, me⟩ := m
        simp only [] at *
        obtain ⟨R1, R2⟩ := R
        simp only [] at *
        go_enter Tryz.func41, Tryz.ntmps41
        go_wp2_with fail
        go_region_with (with_reducible refine (C2.out _).mono ?_; rintro e w2 ⟨rfl, hb2⟩)
        all_goals
          go_wp2_with fail
          go_ret2
          rw [HP2.out]
          exact ⟨rfl, (((Below.refl _ _).alloc (Nat.le_refl _) _).drew).trans (hb2.mono (B' := w.heap.size) (by simp))⟩
end Go.Proofs.YtlcdhlfkffkifaaGreatDoor

/-
  The walk through the translator's way of sparable partitions.
-/
namespace Go.Proofs.YtlcdhlfkffkifaaGreatDoor
open Go.RowKit
namespace Pm
theorem spare_hit {l : List (Int × Int)} {j : Nat} {b d : Int} (hj : j < l.length) (h : ∀ i, i < j → ¬ (l.getD i (0, 0)).1 = b - b % 8) (hx : (l.getD j (0, 0)).1 = b - b % 8) : spare l b d = (l.getD j (0, 0)).2 + b % 8 := by
  induction l generalizing j with
  | nil => simp at hj
  | cons a t ih =>
    cases j with
    | zero =>
      simp at hx
      simp [spare, List.find?, hx]
    | succ j =>
      have h0 := h 0 (by omega)
      simp at h0
      have := ih (j := j) (by simpa using hj) (fun i hi => by simpa using h (i + 1) (by omega)) (by simpa using hx)
      simp only [spare, List.find?, h0, decide_false]
      simpa [spare] using this
theorem spare_miss {l : List (Int × Int)} {b d : Int} (h : ∀ i, i < l.length → ¬ (l.getD i (0, 0)).1 = b - b % 8) : spare l b d = d := by
  have : l.find? (fun s => decide (s.1 = b - b % 8)) = Option.none := by
    rw [List.find?_eq_none]
    intro x hx
    obtain ⟨i, hi, rfl⟩ := List.getElem_of_mem hx
    have := h i hi
    simpa [List.getD, hi] using this
  unfold spare
  rw [this]
end Pm

set_option maxHeartbeats 3200000 in
set_option maxRecDepth 100000 in
/-- translator.sparable. -/
theorem sparable_any (m : Pm.Mp) (A0 A1 A3 A4 : Option Addr) (n0 n1 n3 n4 c0 c1 c3 c4 : Nat) (v2 : Value) (b : Int) (w : World) (hm : Pm.MpFew m) (ha : Kit.RowN w v2 2 m.spares.length (fun j => Pm.spC (m.spares.getD j (0, 0)))) (hb0 : -9223372036854775808 ≤ b) (hb1 : b ≤ 9223372036854775807) :
    Calls Tryz.prog 42 #[Pm.mpV m (.slice A0 n0 c0) (.slice A1 n1 c1) v2 (.slice A3 n3 c3) (.slice A4 n4 c4), .int .i64 b] w fun e w' => e = .returned (.tuple #[.int .i64 (if (Pm.phys m b).2 ≠ 0 then (0, (Pm.phys m b).2) else (Pm.spare m.spares b (Pm.phys m b).1, 0)).1, .int .i64 (if (Pm.phys m b).2 ≠ 0 then ((0 : Int), (Pm.phys m b).2) else (Pm.spare m.spares b (Pm.phys m b).1, 0)).2]) ∧ Below w.heap.size w w' := by
  have hvl := hm.sps
  have HA := Lib.hid ha
  obtain ⟨A2, c2, rfl, hlc, hcm, _⟩ := ha
  unfold maxLen at hcm
  have CP := Lib.hid (fun W => physical_any m A0 A1 A2 A3 A4 n0 n1 m.spares.length n3 n4 c0 c1 c2 c3 c4 b W hm)
  have hph : Pm.phys m b = if b < 0 ∨ m.count ≤ b then (0, 2) else (m.start + b, 0) := rfl
  have HSP := Lib.hid hm.sp
  by_cases h0 : b < 0 ∨ m.count ≤ b
  · have hP : Pm.phys m b = (0, 2) := by rw [hph, if_pos h0]
    rw [hP] at CP ⊢
    clear hP hph hm HSP
    unfold Pm.mpV at *
    obtain ⟨maps, s, n, vat, sps, me⟩ := m
    simp only [] at *
    clear h0
    go_enter Tryz.func42, Tryz.ntmps42
    go_wp2_with fail
    with_reducible refine (CP.out _).mono ?_
    rintro e w2 ⟨rfl, hb2⟩
    go_wp2_with fail
    go_ret2
    exact ⟨rfl, ((Below.refl _ _).alloc (Nat.le_refl _) _).trans (hb2.mono (B' := w.heap.size) (by simp))⟩
  · have hP : Pm.phys m b = (m.start + b, 0) := by rw [hph, if_neg h0]
    rw [hP] at CP ⊢
    have hc1 := hm.c1
    clear hP hph hm
    rw [if_neg (by simp)]
    simp only []
    obtain ⟨j, rfl⟩ := Int.eq_ofNat_of_zero_le (show 0 ≤ b by omega)
    have htm : ((j : Int)).tmod 8 = (j : Int) % 8 := Int.tmod_eq_emod_of_nonneg (by omega)
    have hj1 : (j : Int) ≤ 1099511627776 := by omega
    have HHit := Lib.hid (fun i (hi : i < m.spares.length) h hx => Pm.spare_hit (l := m.spares) (j := i) (b := j) (d := m.start + j) hi h hx)
    have HMiss := Lib.hid (fun h => Pm.spare_miss (l := m.spares) (b := j) (d := m.start + j) h)
    generalize Pm.spare m.spares j (m.start + j) = R at *
    clear h0 hc1
    unfold Pm.mpV at *
    obtain ⟨maps, s, n, vat, sps, me⟩ := m
    simp only [] at *
    generalize s + (j : Int) = sj at *
    go_enter Tryz.func42, Tryz.ntmps42
    go_wp2_with fail
    with_reducible refine (CP.out _).mono ?_
    rintro e w2 ⟨rfl, hb2⟩
    have hbx : ∀ k u, (#[.slice A0 n0 c0, .int .i64 s, .int .i64 n, .slice A1 n1 c1, .slice A2 sps.length c2, .slice A3 n3 c3, .slice A4 n4 c4] : Array Value)[k]? = some u → w2.cell? ⟨w.heap.size, k, none⟩ = some u := fun k u hu => by
      refine (hb2.cell (p := ⟨w.heap.size, k, none⟩) (by simp)).trans ?_
      rw [World.cell?_alloc_at _ _ _ _ (by simp)]
      simpa using hu
    have x4 := hbx 4 _ rfl
    have hcw : Below w.heap.size w w2 := ((Below.refl _ _).alloc (Nat.le_refl _) _).trans (hb2.mono (B' := w.heap.size) (by simp))
    clear hbx hb2
    go_wp2_with fail
    go_loopw [9, 23] (fun _ iv wr => ∃ i : Nat, i ≤ sps.length ∧ iv = .int .i64 i ∧ Hid (∀ k, k < i → ¬ (sps.getD k (0, 0)).1 = (j : Int) - (j : Int) % 8) ∧ Below w.heap.size w wr) (fun _ iv _ => sps.length - (intOf iv).toNat)
    case atStart => exact ⟨0, by omega, rfl, Lib.hid (fun k hk => by omega), hcw⟩
    case round =>
      obtain ⟨i, hi, rfl, HN, hbr⟩ := hrel
      by_cases hlt : i < sps.length
      · obtain ⟨A', c', hv', _, _, hcells⟩ := HA.out
        obtain ⟨g, o, rfl, hbl, hc⟩ := hcells (by omega)
        obtain ⟨rfl, _, rfl⟩ : A2 = some ⟨g, o, none⟩ ∧ sps.length = sps.length ∧ c2 = c' := by simpa using hv'
        clear hv'
        have q0 := (hbr.cell (p := ⟨g, o + i * 2, none⟩) hbl).trans (hc i hlt 0 _ rfl)
        have q1 := (hbr.cell (p := ⟨g, o + i * 2 + 1, none⟩) hbl).trans (hc i hlt 1 _ rfl)
        have hx := HSP.out (sps.getD i (0, 0)) (by simp [List.getD, hlt])
        have H1 := Lib.hid (HHit.out i hlt HN.out)
        have H2 := Lib.hid (show ¬ (sps.getD i (0, 0)).1 = (j : Int) - (j : Int) % 8 → ∀ k, k < i + 1 → ¬ (sps.getD k (0, 0)).1 = (j : Int) - (j : Int) % 8 from fun h k hk => by
          by_cases hki : k = i
          · subst hki; exact h
          · exact HN.out k (by omega))
        clear hc
        generalize sps.getD i (0, 0) = x at *
        obtain ⟨x1, x2⟩ := x
        simp only [] at *
        by_cases hq : x1 = (j : Int) - (j : Int) % 8
        · have HR := Lib.hid (H1.out hq)
          clear H1 H2
          have dq : decide (x1 = (j : Int) - (j : Int) % 8) = true := decide_eq_true hq
          go_wp2_with fail
          go_ret2
          rw [HR.out]
          refine ⟨?_, hbr.trans (((Below.refl _ _).alloc (Nat.le_refl _) _).mono hbr.size)⟩
          go_num
        · have HR := Lib.hid (H2.out hq)
          clear H1 H2
          have dq : decide (x1 = (j : Int) - (j : Int) % 8) = false := decide_eq_false hq
          go_wp2_with fail
          go_roundw
          case rel => exact ⟨i + 1, by omega, by go_num, HR, hbr.trans (((Below.refl _ _).alloc (Nat.le_refl _) _).mono hbr.size)⟩
          case measure => simp [intOf]; omega
      · obtain rfl : i = sps.length := by omega
        have HR := Lib.hid (HMiss.out HN.out)
        go_wp2_with fail
        go_ret2
        rw [HR.out]
        exact ⟨rfl, hbr⟩
end Go.Proofs.YtlcdhlfkffkifaaGreatDoor

/-
  The walk through partitionmap.Translate (metadata's way by its contract).
-/
namespace Go.Proofs.YtlcdhlfkffkifaaGreatDoor
open Go.RowKit Go.Maps
def fnV (n : Nat) : Value := .func (.func n) #[] #[]

set_option maxHeartbeats 16000000 in
set_option maxRecDepth 100000 in
/-- partitionmap.Translate. -/
theorem translate_any (m : Pm.Mp) (v0 v1 v2 : Value) (A3 A4 : Option Addr) (n3 n4 c3 c4 : Nat) (T : Nat → Value) (b p : Int) (w : World) (hm : Pm.MpFew m) (hp : Pm.MpAt w m v1 v2) (hl : Pm.MapsAt w v0 m.maps T) (hf : Pm.Few m.maps) (hb0 : -9223372036854775808 ≤ b) (hb1 : b ≤ 9223372036854775807)
    (hmeta : ∀ W, Below w.heap.size w W → 0 ≤ p → p < m.maps.length → (m.maps.getD p.toNat Pm.none).kind = 3 → Calls Tryz.prog 43 #[Pm.mpV m v0 v1 v2 (.slice A3 n3 c3) (.slice A4 n4 c4), .int .i64 b] W fun e w' => e = .returned (.tuple #[.int .i64 (Pm.transR m b p).1, .int .i64 (Pm.transR m b p).2]) ∧ Below W.heap.size W w') :
    Calls Tryz.prog 21 #[Pm.mpV m v0 v1 v2 (.slice A3 n3 c3) (.slice A4 n4 c4), .agg #[.int .i64 b, .int .i64 p]] w fun e w' => e = .returned (.tuple #[.int .i64 (Pm.transR m b p).1, .int .i64 (Pm.transR m b p).2]) ∧ Below w.heap.size w w' := by
  have HL := Lib.hid hl
  have HMD := Lib.hid hmeta
  have hf8 := hf.1
  have HP := Lib.hid hp
  have HF := Lib.hid hm
  obtain ⟨A0, c0, rfl, hlc, hcm, hcells⟩ := hl.row
  obtain ⟨A1, c1, hv1, hlc1, hcm1, _⟩ := hp.vat
  obtain ⟨A2, c2, hv2, hlc2, hcm2, _⟩ := hp.spares
  subst hv1 hv2
  rw [Kit.izs_length] at *
  have HCE := Lib.hid hcells
  unfold maxLen at hcm hcm1 hcm2
  have hvat := hm.vats
  have hsps := hm.sps
  clear hcells hm hp hl hf hmeta
  by_cases hb : p < 0 ∨ (m.maps.length : Int) ≤ p
  · have HR := Lib.hid (show Pm.transR m b p = (0, 1) by unfold Pm.transR; rw [if_pos hb])
    clear HMD
    generalize Pm.transR m b p = R at *
    clear HP HF HL HCE
    unfold Pm.mpV
    obtain ⟨maps, s, n, vat, sps, me⟩ := m
    simp only [] at *
    by_cases h0 : p < 0
    · have d0 : decide (p < 0) = true := decide_eq_true h0
      go_enter Tryz.func21, Tryz.ntmps21
      go_wp2_with fail
      go_ret2
      rw [HR.out]
      exact ⟨rfl, ((Below.refl _ _).alloc (Nat.le_refl _) _).alloc (by simp) _⟩
    · have d0 : decide (p < 0) = false := decide_eq_false h0
      have d1 : decide ((maps.length : Int) ≤ p) = true := decide_eq_true (by omega)
      go_enter Tryz.func21, Tryz.ntmps21
      go_wp2_with fail
      go_ret2
      rw [HR.out]
      exact ⟨rfl, ((Below.refl _ _).alloc (Nat.le_refl _) _).alloc (by simp) _⟩
  · obtain ⟨j, rfl⟩ := Int.eq_ofNat_of_zero_le (show 0 ≤ p by omega)
    have hj : j < m.maps.length := by omega
    have d0 : decide ((j : Int) < 0) = false := decide_eq_false (by omega)
    have d1 : decide ((m.maps.length : Int) ≤ (j : Int)) = false := decide_eq_false (by omega)
    have CPh := Lib.hid (fun W => physical_any m A0 A1 A2 A3 A4 m.maps.length m.vat.length m.spares.length n3 n4 c0 c1 c2 c3 c4 b W HF.out)
    have CVi := Lib.hid (fun W h => virtual_any m A0 A2 A3 A4 m.maps.length m.spares.length n3 n4 c0 c2 c3 c4 (.slice A1 m.vat.length c1) b W HF.out h hb0 hb1)
    have CSp := Lib.hid (fun W h => sparable_any m A0 A1 A3 A4 m.maps.length m.vat.length n3 n4 c0 c1 c3 c4 (.slice A2 m.spares.length c2) b W HF.out h hb0 hb1)
    obtain ⟨g, o, rfl, hbl, hc⟩ := HCE.out (by omega)
    have hc0 := hc j hj 0 _ rfl
    have hi64 := (HL.out.ints j hj).kind
    rw [Nat.add_zero] at hc0
    have HTR := Lib.hid (show Pm.transR m b (j : Int) = if (m.maps.getD j Pm.none).kind = 0 then Pm.phys m b
      else if (m.maps.getD j Pm.none).kind = 1 then (if b < 0 ∨ (m.vat.length : Int) ≤ b then (0, 2) else if m.vat.getD b.toNat 0 = 4294967295 then (0, 6) else Pm.phys m (m.vat.getD b.toNat 0))
      else if (m.maps.getD j Pm.none).kind = 2 then (if (Pm.phys m b).2 ≠ 0 then (0, (Pm.phys m b).2) else (Pm.spare m.spares b (Pm.phys m b).1, 0))
      else if (m.maps.getD j Pm.none).kind = 3 then (if (Pm.locX m.mdat b).2.2 ≠ 0 then (0, 2) else Pm.phys m (Pm.locX m.mdat b).1.1)
      else (0, 14) by unfold Pm.transR; rw [if_neg hb, Int.toNat_natCast])
    have HM3 := Lib.hid (fun (W : World) (h : Below w.heap.size w W) (hk : (m.maps.getD j Pm.none).kind = 3) => HMD.out W h (by omega) (by omega) (by rw [Int.toNat_natCast]; exact hk))
    have HPA := Lib.hid HP.out
    clear hb hc HMD HCE HL HP HF
    generalize (m.maps.getD j Pm.none).kind = k at *
    generalize hq1 : (if b < 0 ∨ (m.vat.length : Int) ≤ b then ((0 : Int), (2 : Int)) else if m.vat.getD b.toNat 0 = 4294967295 then (0, 6) else Pm.phys m (m.vat.getD b.toNat 0)) = q1 at *
    generalize hq2 : (if (Pm.phys m b).2 ≠ 0 then ((0 : Int), (Pm.phys m b).2) else (Pm.spare m.spares b (Pm.phys m b).1, 0)) = q2 at *
    clear hq1 hq2
    generalize Pm.phys m b = q0 at *
    generalize Pm.transR m b (j : Int) = R at *
    have hwk : (Lit.int .i64 k).wf = true := by
      show (decide (IntKind.min .i64 ≤ k) && decide (k ≤ IntKind.max .i64)) = true
      rw [show IntKind.min .i64 = -9223372036854775808 from rfl, show IntKind.max .i64 = 9223372036854775807 from rfl, Bool.and_eq_true, decide_eq_true_eq, decide_eq_true_eq]
      exact hi64
    have hmm := @run_makeMap Tryz.prog
    have hn0 : ∀ W : World, (binOp BinOp.eql 73 (.func (.func 40) #[] #[]) .nilFunc).run Tryz.prog W = .ok (.bool false) W := fun W => by kernel_rfl
    have hn1 : ∀ W : World, (binOp BinOp.eql 73 (.func (.func 41) #[] #[]) .nilFunc).run Tryz.prog W = .ok (.bool false) W := fun W => by kernel_rfl
    have hn2 : ∀ W : World, (binOp BinOp.eql 73 (.func (.func 42) #[] #[]) .nilFunc).run Tryz.prog W = .ok (.bool false) W := fun W => by kernel_rfl
    have hn3 : ∀ W : World, (binOp BinOp.eql 73 (.func (.func 43) #[] #[]) .nilFunc).run Tryz.prog W = .ok (.bool false) W := fun W => by kernel_rfl
    have hn4 : ∀ W : World, (binOp BinOp.eql 73 .nilFunc .nilFunc).run Tryz.prog W = .ok (.bool true) W := fun W => by kernel_rfl
    have h0 : VMap (((w.alloc (.cells #[.slice (some ⟨g, o, none⟩) m.maps.length c0, .int .i64 m.start, .int .i64 m.count, .slice A1 m.vat.length c1, .slice A2 m.spares.length c2, .slice A3 n3 c3, .slice A4 n4 c4] 41)).alloc (.cells #[.int .i64 b, .int .i64 j] 43)).alloc (.map #[] 0)) (w.heap.size + 1 + 1) 0 (.map []) := by
      have h := World.ownsMap_made ((w.alloc (.cells #[.slice (some ⟨g, o, none⟩) m.maps.length c0, .int .i64 m.start, .int .i64 m.count, .slice A1 m.vat.length c1, .slice A2 m.spares.length c2, .slice A3 n3 c3, .slice A4 n4 c4] 41)).alloc (.cells #[.int .i64 b, .int .i64 j] 43)) Tryz.prog 3 asIs
      rw [show ((w.alloc (.cells #[.slice (some ⟨g, o, none⟩) m.maps.length c0, .int .i64 m.start, .int .i64 m.count, .slice A1 m.vat.length c1, .slice A2 m.spares.length c2, .slice A3 n3 c3, .slice A4 n4 c4] 41)).alloc (.cells #[.int .i64 b, .int .i64 j] 43)).heap.size = w.heap.size + 1 + 1 by simp] at h
      exact h
    have H0 := Lib.hid h0
    clear h0
    have HC0 := Lib.hid hc0
    clear hc0
    unfold Pm.mpV at *
    obtain ⟨maps, s, n, vat, sps, me⟩ := m
    simp only [] at *
    go_enter Tryz.func21, Tryz.ntmps21
    go_wp2_with (refine Kit.wpList_insert_own _ rfl (.tmp 19) _ _ _ rfl 3 73 keyedInt (by kernel_rfl) _ (w.heap.size + 1 + 1) 0 _ rfl H0.out (by unfold maxLen; omega) (.int .i64 0) _ (.int .i64 0) rfl rfl (keyOf_int_mk Tryz.underlying3 (by decide)) _ [] rfl ?_)
    intro w1 hown1 hg1
    have H1 := Lib.hid hown1
    clear hown1
    go_wp2_with (refine Kit.wpList_insert_own _ rfl (.tmp 19) _ _ _ rfl 3 73 keyedInt (by kernel_rfl) _ (w.heap.size + 1 + 1) 1 _ rfl H1.out (by unfold maxLen; omega) (.int .i64 1) _ (.int .i64 1) rfl rfl (keyOf_int_mk Tryz.underlying3 (by decide)) _ [] rfl ?_)
    intro w2 hown2 hg2
    have H2 := Lib.hid hown2
    clear hown2
    go_wp2_with (refine Kit.wpList_insert_own _ rfl (.tmp 19) _ _ _ rfl 3 73 keyedInt (by kernel_rfl) _ (w.heap.size + 1 + 1) 2 _ rfl H2.out (by unfold maxLen; omega) (.int .i64 2) _ (.int .i64 2) rfl rfl (keyOf_int_mk Tryz.underlying3 (by decide)) _ [] rfl ?_)
    intro w3 hown3 hg3
    have H3 := Lib.hid hown3
    clear hown3
    go_wp2_with (refine Kit.wpList_insert_own _ rfl (.tmp 19) _ _ _ rfl 3 73 keyedInt (by kernel_rfl) _ (w.heap.size + 1 + 1) 3 _ rfl H3.out (by unfold maxLen; omega) (.int .i64 3) _ (.int .i64 3) rfl rfl (keyOf_int_mk Tryz.underlying3 (by decide)) _ [] rfl ?_)
    intro w4 hown4 hg4
    have H4 := Lib.hid hown4
    clear hown4
    have hgg := ((hg1.trans hg2).trans hg3).trans hg4
    have hsz := hgg.size
    have hbb : Below (w.heap.size + 1 + 1) (((w.alloc (.cells #[.slice (some ⟨g, o, none⟩) maps.length c0, .int .i64 s, .int .i64 n, .slice A1 vat.length c1, .slice A2 sps.length c2, .slice A3 n3 c3, .slice A4 n4 c4] 41)).alloc (.cells #[.int .i64 b, .int .i64 j] 43)).alloc (.map #[] 0)) w4 := (Below.refl _ _).grown hgg (by simp) (fun q hq => by cases hq; exact Nat.le_refl _)
    have hb0' : Below w.heap.size w w4 := ((((Below.refl _ w).alloc (Nat.le_refl _) _).alloc (by simp) _).alloc (by simp; omega) _).trans (hbb.mono (by omega))
    have hx : ∀ q u, (#[.slice (some ⟨g, o, none⟩) maps.length c0, .int .i64 s, .int .i64 n, .slice A1 vat.length c1, .slice A2 sps.length c2, .slice A3 n3 c3, .slice A4 n4 c4] : Array Value)[q]? = some u → w4.cell? ⟨w.heap.size, q, none⟩ = some u := fun q u hu => by
      refine (hbb.cell (p := ⟨w.heap.size, q, none⟩) (by simp; omega)).trans ?_
      have hbw := (((Below.refl (w.heap.size + 1) (w.alloc (.cells #[.slice (some ⟨g, o, none⟩) maps.length c0, .int .i64 s, .int .i64 n, .slice A1 vat.length c1, .slice A2 sps.length c2, .slice A3 n3 c3, .slice A4 n4 c4] 41))).alloc (by simp) (.cells #[.int .i64 b, .int .i64 j] 43)).alloc (by simp) (.map #[] 0))
      refine (hbw.cell (p := ⟨w.heap.size, q, none⟩) (by simp)).trans ?_
      rw [World.cell?_alloc_at _ _ _ _ (by simp)]
      simpa using hu
    have ha : ∀ q u, (#[.int .i64 b, .int .i64 j] : Array Value)[q]? = some u → w4.cell? ⟨w.heap.size + 1, q, none⟩ = some u := fun q u hu => by
      refine (hbb.cell (p := ⟨w.heap.size + 1, q, none⟩) (by simp)).trans ?_
      have hbw := ((Below.refl (w.heap.size + 1 + 1) ((w.alloc (.cells #[.slice (some ⟨g, o, none⟩) maps.length c0, .int .i64 s, .int .i64 n, .slice A1 vat.length c1, .slice A2 sps.length c2, .slice A3 n3 c3, .slice A4 n4 c4] 41)).alloc (.cells #[.int .i64 b, .int .i64 j] 43))).alloc (by simp) (.map #[] 0))
      refine (hbw.cell (p := ⟨w.heap.size + 1, q, none⟩) (by simp)).trans ?_
      rw [World.cell?_alloc_at _ _ _ _ (by simp)]
      simpa using hu
    have x0 := hx 0 _ rfl
    have x1 := hx 1 _ rfl
    have x2 := hx 2 _ rfl
    have x3 := hx 3 _ rfl
    have x4 := hx 4 _ rfl
    have x5 := hx 5 _ rfl
    have x6 := hx 6 _ rfl
    have a0 := ha 0 _ rfl
    have a1 := ha 1 _ rfl
    have kc := (hb0'.cell (p := ⟨g, o + j * 6, none⟩) hbl).trans HC0.out
    have HB := Lib.hid hb0'
    have hz : (zeroValue 73).run Tryz.prog w4 = .ok .nilFunc w4 := by kernel_rfl
    have hlk := four4_look (t := 77) (by kernel_rfl) (.func (.func 40) #[] #[]) (.func (.func 41) #[] #[]) (.func (.func 42) #[] #[]) (.func (.func 43) #[] #[]) _ k w4 (w.heap.size + 1 + 1) 4 H4.out hwk hz
    have HPB := Lib.hid (HPA.out.below hb0')
    clear hx ha hbb hb0' hgg hg1 hg2 hg3 hg4 hz H0 H1 H2 H3 H4 HC0 hwk hbl
    by_cases k0 : k = 0
    · have HQ := Lib.hid (show R = q0 by rw [HTR.out, if_pos k0])
      rw [if_pos k0] at hlk
      subst k0
      clear HTR
      go_wp2_with fail
      with_reducible refine (CPh.out _).mono ?_
      rintro e w5 ⟨rfl, hb5⟩
      go_wp2_with fail
      go_ret2
      rw [HQ.out]
      exact ⟨rfl, HB.out.trans (hb5.mono HB.out.size)⟩
    · by_cases k1 : k = 1
      · have HQ := Lib.hid (show R = q1 by rw [HTR.out, if_neg k0, if_pos k1])
        rw [if_neg k0, if_pos k1] at hlk
        subst k1
        clear HTR
        go_wp2_with fail
        with_reducible refine (CVi.out _ HPB.out.vat).mono ?_
        rintro e w5 ⟨rfl, hb5⟩
        go_wp2_with fail
        go_ret2
        rw [HQ.out]
        exact ⟨rfl, HB.out.trans (hb5.mono HB.out.size)⟩
      · by_cases k2 : k = 2
        · have HQ := Lib.hid (show R = q2 by rw [HTR.out, if_neg k0, if_neg k1, if_pos k2])
          rw [if_neg k0, if_neg k1, if_pos k2] at hlk
          subst k2
          clear HTR
          go_wp2_with fail
          with_reducible refine (CSp.out _ HPB.out.spares).mono ?_
          rintro e w5 ⟨rfl, hb5⟩
          go_wp2_with fail
          go_ret2
          rw [HQ.out]
          exact ⟨rfl, HB.out.trans (hb5.mono HB.out.size)⟩
        · by_cases k3 : k = 3
          · have HQ := Lib.hid (HM3.out w4 HB.out k3)
            rw [if_neg k0, if_neg k1, if_neg k2, if_pos k3] at hlk
            subst k3
            clear HTR
            go_wp2_with fail
            with_reducible refine HQ.out.mono ?_
            rintro e w5 ⟨rfl, hb5⟩
            go_wp2_with fail
            go_ret2
            exact ⟨rfl, HB.out.trans (hb5.mono HB.out.size)⟩
          · have HQ := Lib.hid (show R = (0, 14) by rw [HTR.out, if_neg k0, if_neg k1, if_neg k2, if_neg k3])
            rw [if_neg k0, if_neg k1, if_neg k2, if_neg k3] at hlk
            clear HTR
            go_wp2_with fail
            go_ret2
            rw [HQ.out]
            exact ⟨rfl, HB.out⟩
end Go.Proofs.YtlcdhlfkffkifaaGreatDoor
