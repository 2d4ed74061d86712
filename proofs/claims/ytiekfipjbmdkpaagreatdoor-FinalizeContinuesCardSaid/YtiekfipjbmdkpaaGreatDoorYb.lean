/-
  Whether an address lies in a closed session: Check's inner function, slices.IndexFunc, slices.ContainsFunc over spans.
-/
import Derived.Test.YtiekfipjbmdkpaaGreatDoorYa
namespace Go.Proofs.YtiekfipjbmdkpaaGreatDoor
open Go.RowKit
namespace Fi
def inS (z : Int) (x : Int × Int) : Bool := decide (x.1 ≤ z) && decide (z < x.1 + x.2)
def okX (x : Int × Int) : Prop := 0 ≤ x.1 ∧ 1 ≤ x.2 ∧ x.1 + x.2 ≤ 4096
end Fi

set_option maxHeartbeats 1600000 in
set_option maxRecDepth 100000 in
theorem check1_any (s c z : Int) (g : Nat) (w : World) (hk : Fi.okX (s, c)) (hg : w.cell? ⟨g, 0, none⟩ = some (.int .i64 z)) :
    Calls Tryz.prog 25 #[.agg #[.int .i64 s, .int .i64 c], .pointer (some ⟨g, 0, none⟩)] w fun e w' => e = .returned (.bool (Fi.inS z (s, c))) ∧ Below w.heap.size w w' := by
  obtain ⟨k0, k1, k2⟩ := hk
  simp only [] at k0 k1 k2
  have hgl := World.block_lt_of_cell? _ _ hg
  have HB := Lib.hid ((Below.refl w.heap.size w).alloc (Nat.le_refl _) (.cells #[.int .i64 s, .int .i64 c] 43))
  have hg1 := (HB.out.cell (p := ⟨g, 0, none⟩) hgl).trans hg
  have hw64 := IntWalk.wrap64_in (s + c) (by omega)
  unfold Fi.inS
  by_cases h0 : s ≤ z
  · have d0 : decide (s ≤ z) = true := decide_eq_true h0
    by_cases h1 : z < s + c
    · have d1 : decide (z < s + c) = true := decide_eq_true h1
      simp only [d0, d1]
      go_enter Tryz.func25, Tryz.ntmps25
      go_wp2_with fail
      go_ret
      exact ⟨rfl, HB.out⟩
    · have d1 : decide (z < s + c) = false := decide_eq_false h1
      simp only [d0, d1]
      go_enter Tryz.func25, Tryz.ntmps25
      go_wp2_with fail
      go_ret
      exact ⟨rfl, HB.out⟩
  · have d0 : decide (s ≤ z) = false := decide_eq_false h0
    simp only [d0, Bool.false_and]
    go_enter Tryz.func25, Tryz.ntmps25
    go_wp2_with fail
    go_ret
    exact ⟨rfl, HB.out⟩

set_option maxHeartbeats 3200000 in
set_option maxRecDepth 100000 in
theorem indexS_any (v : Value) (L : List (Int × Int)) (z : Int) (g : Nat) (w : World) (hv : Kit.RowN w v 2 L.length (fun j => Pm.spC (L.getD j (0, 0)))) (hl : L.length ≤ 16) (hk : ∀ x ∈ L, Fi.okX x) (hg : w.cell? ⟨g, 0, none⟩ = some (.int .i64 z)) :
    Calls Tryz.prog 45 #[v, .func (.func 25) #[] #[.pointer (some ⟨g, 0, none⟩)]] w fun e w' => ∃ k : Int, e = .returned (.int .i64 k) ∧ decide (0 ≤ k) = L.any (Fi.inS z) ∧ Below w.heap.size w w' := by
  have hgl := World.block_lt_of_cell? _ _ hg
  have HV := Lib.hid hv
  have HK := Lib.hid hk
  have HG := Lib.hid hg
  obtain ⟨A, c, rfl, hlc, hlm, _⟩ := hv
  unfold maxLen at hlm
  clear hg hk
  go_enter Tryz.func45, Tryz.ntmps45
  go_wp2_with fail
  go_loopw [5, 8] (fun _ iv wr => ∃ j : Nat, j ≤ L.length ∧ iv = .int .i64 j ∧ Hid (∀ i, i < j → Fi.inS z (L.getD i (0, 0)) = false) ∧ Below w.heap.size w wr) (fun _ iv _ => L.length - (intOf iv).toNat)
  case atStart => exact ⟨0, by omega, rfl, Lib.hid (fun i hi => absurd hi (by omega)), Below.refl _ _⟩
  case round =>
    obtain ⟨j, hj, rfl, HN, hbr⟩ := hrel
    have HB := Lib.hid hbr
    by_cases hlt : j < L.length
    · obtain ⟨A', c', hv', _, _, h3⟩ := HV.out.below hbr
      obtain ⟨p, o, rfl, hpl, hc⟩ := h3 (by omega)
      obtain ⟨rfl, _, rfl⟩ : A = some ⟨p, o, none⟩ ∧ L.length = L.length ∧ c = c' := by simpa using hv'
      clear hv' h3
      have q0 : wr.cell? ⟨p, o + j * 2, none⟩ = some (.int .i64 (L.getD j (0, 0)).1) := hc j hlt 0 _ rfl
      have q1 : wr.cell? ⟨p, o + j * 2 + 1, none⟩ = some (.int .i64 (L.getD j (0, 0)).2) := hc j hlt 1 _ rfl
      have hmem := Fi.getD_mem (d := ((0 : Int), (0 : Int))) hlt
      have hok := HK.out _ hmem
      have HT := Lib.hid (show Fi.inS z (L.getD j (0, 0)) = true → L.any (Fi.inS z) = true from fun h => List.any_eq_true.2 ⟨_, hmem, h⟩)
      have HS := Lib.hid (show Fi.inS z (L.getD j (0, 0)) = false → ∀ i, i < j + 1 → Fi.inS z (L.getD i (0, 0)) = false from fun h i hi => by
        by_cases hij : i = j
        · subst hij; exact h
        · exact HN.out i (by omega))
      have hg1 := (hbr.cell (p := ⟨g, 0, none⟩) hgl).trans HG.out
      generalize L.getD j (0, 0) = x at *
      obtain ⟨s, n⟩ := x
      simp only [] at *
      have CC := Lib.hid (check1_any s n z g wr hok hg1)
      have hdec : ((0 : Int) ≤ (j : Int)) := by omega
      clear hc hbr hmem hg1 hok
      generalize Fi.inS z (s, n) = bb at *
      go_wp2_with fail
      with_reducible refine CC.out.mono ?_
      rintro e w2 ⟨rfl, hb2⟩
      have HB2 := Lib.hid (HB.out.trans (hb2.mono HB.out.size))
      clear hb2 CC q0 q1
      cases bb with
      | true =>
        have HR := Lib.hid (HT.out rfl)
        clear HT HS
        go_wp2_with fail
        go_ret
        exact ⟨_, rfl, by rw [HR.out]; exact decide_eq_true hdec, HB2.out⟩
      | false =>
        have HR := Lib.hid (HS.out rfl)
        clear HT HS
        go_wp2_with fail
        go_roundw
        case rel => exact ⟨j + 1, by omega, by go_num, HR, HB2.out⟩
        case measure => simp [intOf]; omega
    · obtain rfl : j = L.length := by omega
      have HR := Lib.hid (show L.any (Fi.inS z) = false by
        rw [List.any_eq_false]
        intro x hx
        obtain ⟨i, hi, rfl⟩ := Fi.mem_getD (d := ((0 : Int), (0 : Int))) hx
        rw [HN.out i hi]
        simp)
      go_wp2_with fail
      go_ret
      exact ⟨_, rfl, by rw [HR.out]; rfl, HB.out⟩

set_option maxHeartbeats 1600000 in
set_option maxRecDepth 100000 in
theorem containsS_any (v : Value) (L : List (Int × Int)) (z : Int) (g : Nat) (w : World) (hv : Kit.RowN w v 2 L.length (fun j => Pm.spC (L.getD j (0, 0)))) (hl : L.length ≤ 16) (hk : ∀ x ∈ L, Fi.okX x) (hg : w.cell? ⟨g, 0, none⟩ = some (.int .i64 z)) :
    Calls Tryz.prog 24 #[v, .func (.func 25) #[] #[.pointer (some ⟨g, 0, none⟩)]] w fun e w' => e = .returned (.bool (L.any (Fi.inS z))) ∧ Below w.heap.size w w' := by
  have CI := Lib.hid (indexS_any v L z g w hv hl hk hg)
  obtain ⟨A, c, rfl, _, _, _⟩ := hv
  generalize L.any (Fi.inS z) = bb at *
  go_enter Tryz.func24, Tryz.ntmps24
  go_wp2_with fail
  with_reducible refine CI.out.mono ?_
  rintro e w2 ⟨k, rfl, hk2, hb2⟩
  have HK := Lib.hid hk2
  have HB := Lib.hid hb2
  clear hk2 hb2
  go_wp2_with fail
  go_ret
  rw [HK.out]
  exact ⟨rfl, HB.out⟩
end Go.Proofs.YtiekfipjbmdkpaaGreatDoor
