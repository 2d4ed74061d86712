/-
  finalize.Check at the example: writes read off the runner's blocks.
-/
import Derived.Test.YtiekfipjbmdkpaaGreatDoorHc
import Derived.Test.YtiekfipjbmdkpaaGreatDoorYd
noncomputable section
namespace Go.Proofs.YtiekfipjbmdkpaaGreatDoor
open Go.RowKit
namespace Fi
/-- Addresses that rise, behind the disc's last block, no closed session: none is refused. -/
theorem go_free {b : List ByteArray} : ∀ {zs done : List Int}, zs.Pairwise (· < ·) → (∀ z ∈ zs, (b.length : Int) ≤ z) → (∀ y ∈ done, ∀ z ∈ zs, y < z) → go 1 b [] done zs = (0, 0)
  | [], _, _, _, _ => rfl
  | z :: zs, done, hp, hb, hd => by
    obtain ⟨h1, h2⟩ := List.pairwise_cons.1 hp
    have hn : ¬ z ∈ done := fun h => absurd (hd z h z (List.mem_cons_self ..)) (by omega)
    have hu : used b z = false := by
      unfold used
      rw [decide_eq_false (by have := hb z (List.mem_cons_self ..); omega), Bool.false_and]
    have hs : step 1 b [] done z = none := step_no rfl (by rw [decide_eq_false hn, hu]; rfl)
    rw [go_on hs]
    refine go_free h2 (fun x hx => hb x (List.mem_cons_of_mem _ hx)) fun y hy x hx => ?_
    rcases List.mem_append.1 hy with hy | hy
    · exact hd y hy x (List.mem_cons_of_mem _ hx)
    · rw [List.mem_singleton.1 hy]
      exact h1 x hx
/-- Where the writes lie. -/
def adrN (l : List (Int × Nat)) : List Int := l.flatMap fun p => (List.range p.2).map fun i : Nat => p.1 + i
theorem flat_getD (f : Wr → List Int) : ∀ (l : List Wr), (List.range l.length).flatMap (fun k => f (l.getD k wr0)) = l.flatMap f
  | [] => rfl
  | x :: l => by
    rw [List.length_cons, List.range_succ_eq_map, List.flatMap_cons, List.flatMap_map, List.flatMap_cons, ← flat_getD f l]
    rfl
theorem adrs_eq (l : List Wr) : adrs l = adrN (l.map fun x => (x.pos, x.n)) := by
  unfold adrs adrTo adrN
  rw [flat_getD (fun x => (List.range x.n).map (adr x)), List.flatMap_map]
  rfl
end Fi
namespace Sx
open Go.Sx
set_option maxRecDepth 100000
def lenA : AV → Option Nat
  | .slice _ _ l _ => some l
  | .nilsl => some 0
  | _ => none
/-- The first cells as writes: where, how many blocks. -/
def wrsA : List AV → Nat → Option (List (Int × Nat))
  | _, 0 => some []
  | l, k + 1 => match l with
    | .int .i64 p :: s :: .bool _ :: .bool _ :: r => (match lenA s, wrsA r k with
      | some n, some t => some ((p, n) :: t)
      | _, _ => none)
    | _ => none
theorem lenA_spec {E : Env} {nx : Nat} {v : AV} {n : Nat} (h : lenA v = some n) {x : Value} (hx : VR E nx v x) : ∃ a c, x = .slice a n c := by
  unfold lenA at h
  split at h
  · rename_i i o l c
    injection h with h
    subst h
    cases c with
    | k m => simp only [VR] at hx; exact ⟨_, _, hx.2⟩
    | u j => simp only [VR] at hx; exact ⟨_, _, hx.2.2⟩
  · injection h with h
    subst h
    simp only [VR] at hx
    exact ⟨_, _, hx⟩
  · cases h
theorem wrsA_spec {E : Env} {nx : Nat} : ∀ {k : Nat} {l : List AV} {t : List (Int × Nat)} {C : Nat → Option Value}, wrsA l k = some t → (∀ i v, nth l i = some v → ∃ y, C i = some y ∧ VR E nx v y) →
    ∃ ws : List Fi.Wr, ws.length = k ∧ ws.map (fun x => (x.pos, x.n)) = t ∧ ∀ j, j < k → ∀ (q : Nat) (u : Value), (Fi.wrC (ws.getD j Fi.wr0))[q]? = some u → C (j * 4 + q) = some u
  | 0, l, t, C, h, _ => by
    simp only [wrsA, Option.some.injEq] at h
    subst h
    exact ⟨[], rfl, rfl, fun j hj => absurd hj (by omega)⟩
  | k + 1, l, t, C, h, hC => by
    unfold wrsA at h
    split at h
    · rename_i p s b1 b2 r
      split at h
      · rename_i n t' hn ht
        injection h with h
        subst h
        obtain ⟨ws, h1, h2, h3⟩ := wrsA_spec (k := k) (l := r) (t := t') (C := fun i => C (i + 4)) ht (fun i v hv => hC (i + 4) v hv)
        obtain ⟨y0, g0, e0⟩ := hC 0 _ rfl
        obtain ⟨y1, g1, e1⟩ := hC 1 _ rfl
        obtain ⟨y2, g2, e2⟩ := hC 2 _ rfl
        obtain ⟨y3, g3, e3⟩ := hC 3 _ rfl
        simp only [VR] at e0 e2 e3
        obtain ⟨a, c, rfl⟩ := lenA_spec hn e1
        subst e0 e2 e3
        refine ⟨⟨p, a, n, c, b1, b2⟩ :: ws, by rw [List.length_cons, h1], by rw [List.map_cons, h2], fun j hj q u hu => ?_⟩
        cases j with
        | zero =>
          rw [Nat.zero_mul, Nat.zero_add]
          simp only [List.getD_cons_zero] at hu
          have hq : q < 4 := (List.getElem?_eq_some_iff.1 hu).1
          have h4 : q = 0 ∨ q = 1 ∨ q = 2 ∨ q = 3 := by omega
          rcases h4 with rfl | rfl | rfl | rfl
          · exact g0.trans hu
          · exact g1.trans hu
          · exact g2.trans hu
          · exact g3.trans hu
        | succ j =>
          simp only [List.getD_cons_succ] at hu
          rw [show (j + 1) * 4 + q = j * 4 + q + 4 by omega]
          exact h3 j (by omega) q u hu
      · cases h
    · cases h
/-- The writes' list, as the runner has it. -/
def wrsOf (m : PT AObj) : AV → Option (List (Int × Nat))
  | .slice i o l c => (match m.get i with
    | some (.row _ cs _ _) => (match wrsA (dropL cs o) l, capOk l c, Nat.ble l 4096 with
      | some t, true, true => some t
      | _, _, _ => none)
    | _ => none)
  | _ => none
theorem wrsOf_spec {E : Env} {H : Hp} {w : World} (hr : Rep Tryz.prog E H w) {v : AV} {t : List (Int × Nat)} (h : wrsOf H.m v = some t) {x : Value} (hx : VR E H.next v x) :
    ∃ ws : List Fi.Wr, Fi.Wrs w x ws ∧ ws.map (fun x => (x.pos, x.n)) = t := by
  unfold wrsOf at h
  split at h
  · rename_i i o l c
    split at h
    · rename_i e cs f1 m1 hg
      split at h
      · rename_i t' h1 h2 h3
        injection h with h
        subst h
        obtain ⟨b, p, cap, rfl, k1, k2, k3⟩ := slice_row hr (E := E) hg hx (capOk_spec h2)
        obtain ⟨ws, q1, q2, q3⟩ := wrsA_spec (E := E) (nx := H.next) (C := fun j => w.cell? ⟨b, p + j, none⟩) h1 (fun j v hv => by rw [nth_drop] at hv; exact k3 j v hv)
        have h3 := Nat.le_of_ble_eq_true h3
        refine ⟨ws, ⟨_, cap, by rw [q1], by rw [q1]; exact k1, by rw [q1]; unfold maxLen; omega, fun _ => ⟨b, p, rfl, k2, fun j hj q u hu => ?_⟩⟩, q2⟩
        rw [Nat.add_assoc]
        exact q3 j (by omega) q u hu
      · cases h
    · cases h
  · cases h
/-- Writes behind block n: they lie on a disc, one behind the other. -/
def rising : Nat → List (Int × Nat) → Bool
  | _, [] => true
  | a, (p, n) :: r => (match n with
    | 0 => (match decide (0 ≤ p), decide (p ≤ 8192) with
      | true, true => rising a r
      | _, _ => false)
    | _ => (match decide ((a : Int) ≤ p), decide (p + n ≤ 8192) with
      | true, true => rising (p.toNat + n) r
      | _, _ => false))
theorem rising_spec : ∀ {l : List (Int × Nat)} {a : Nat}, rising a l = true → (Fi.adrN l).Pairwise (· < ·) ∧ (∀ z ∈ Fi.adrN l, (a : Int) ≤ z) ∧ (Fi.adrN l).length ≤ 8192 - a + 0 * a ∧ ∀ p ∈ l, 0 ≤ p.1 ∧ p.1 + p.2 ≤ 8192
  | [], a, _ => ⟨List.Pairwise.nil, fun z hz => by simp [Fi.adrN] at hz, by simp [Fi.adrN], fun p hp => by cases hp⟩
  | (p, n) :: r, a, h => by
    unfold rising at h
    split at h
    · split at h
      · rename_i g1 g2
        have g1 := of_decide_eq_true g1
        have g2 := of_decide_eq_true g2
        obtain ⟨q1, q2, q3, q4⟩ := rising_spec h
        have he : Fi.adrN ((p, 0) :: r) = Fi.adrN r := rfl
        rw [he]
        refine ⟨q1, q2, q3, fun x hx => ?_⟩
        rcases List.mem_cons.1 hx with rfl | hx
        · simp only []; omega
        · exact q4 x hx
      · cases h
    · rename_i hn0
      split at h
      · rename_i g1 g2
        have g1 := of_decide_eq_true g1
        have g2 := of_decide_eq_true g2
        obtain ⟨q1, q2, q3, q4⟩ := rising_spec h
        have he : Fi.adrN ((p, n) :: r) = (List.range n).map (fun i : Nat => p + (i : Int)) ++ Fi.adrN r := rfl
        have hin : ∀ z, z ∈ (List.range n).map (fun i : Nat => p + (i : Int)) → p ≤ z ∧ z < p + n := fun z hz => by
          obtain ⟨i, hi, rfl⟩ := List.mem_map.1 hz
          have := List.mem_range.1 hi
          omega
        rw [he]
        refine ⟨List.pairwise_append.2 ⟨?_, q1, fun y hy z hz => ?_⟩, fun z hz => ?_, ?_, fun x hx => ?_⟩
        · refine List.Pairwise.map _ (fun i j (hij : i < j) => ?_) (List.pairwise_lt_range (n := n))
          omega
        · have h1 := (hin y hy).2
          have h2 := q2 z hz
          omega
        · rcases List.mem_append.1 hz with hz | hz
          · have := (hin z hz).1; omega
          · have := q2 z hz; omega
        · rw [List.length_append, List.length_map, List.length_range]
          omega
        · rcases List.mem_cons.1 hx with rfl | hx
          · simp only []; omega
          · exact q4 x hx
      · cases h
/-- The check that Check finds nothing. -/
noncomputable def chkChk (c : Cut) : Bool := match c.args with
  | [k, .agg [iv, sv], wv] => (match discA (ofM c.m) (.agg [iv, sv]), wrsOf (ofM c.m) wv, rchk (eqV (.bool true)) (call Tryz.prog fnK orcK noCuts 1000 22 [iv, wv] c.hin) with
    | some (a, s), some t, true => (match vA a s, noClosed s, rising a.length t, eqV k (.int .i64 (.ofNat 1)) with
      | true, true, true, true => true
      | _, _, _, _ => false)
    | _, _, _ => false)
  | _ => false
theorem noClosed_nil {l : List Fi.Se} (h : noClosed l = true) : Fi.closedL l = [] := by
  rw [List.eq_nil_iff_forall_not_mem]
  intro x hx
  obtain ⟨i, _, hi, _⟩ := Fi.closedTo_mem.1 hx
  exact noClosed_spec h i hi
set_option maxHeartbeats 1600000 in
theorem check_cut (c : Cut) (hf : c.f = 10) (hout : c.out = []) (hlog : c.log = []) (hnx : c.nx' = c.nx) (hv : c.v = .tup [.int .i64 (.ofNat 0), .int .i64 (.ofNat 0)]) (h : chkChk c = true) : c.True Tryz.prog := by
  refine Cut.true_plain hout hlog hnx fun E w xs hr hx => ?_
  rw [hf, hv]
  refine runs' Tryz.func10 (by kernel_rfl) (by kernel_rfl) _ _ _ ?_
  unfold chkChk at h
  split at h
  case h_2 => cases h
  rename_i k iv sv wv hargs
  rw [hargs] at hx
  simp only [VRs] at hx
  obtain ⟨k', _, hk', ⟨d', _, hd', ⟨w', _, hw', rfl, rfl⟩, rfl⟩, rfl⟩ := hx
  split at h
  case h_2 => cases h
  rename_i a s t h1 h2 h3
  split at h
  case h_2 => cases h
  rename_i k1 k2 k3 k4
  have k4 := eqV_eq _ _ k4
  subst k4
  simp only [VR] at hk'
  subst hk'
  obtain ⟨v1, s1, rfl, g1, g2, g3, g4⟩ := discA_spec hr (v := .agg [iv, sv]) h1 hd'
  have hdw : VRs E c.hin.next [iv, wv] [v1, w'] := by
    simp only [VR, VRs] at hd' ⊢
    obtain ⟨_, ⟨y, _, hy, ⟨z, _, hz, rfl, rfl⟩, rfl⟩, he⟩ := hd'
    simp at he
    obtain ⟨rfl, rfl⟩ := he
    exact ⟨_, _, hy, ⟨w', _, hw', rfl, rfl⟩, rfl⟩
  obtain ⟨ws, g5, g6⟩ := wrsOf_spec hr (v := wv) h2 hw'
  obtain ⟨r1, r2, r3, r4⟩ := rising_spec k3
  have hadr : Fi.adrs ws = Fi.adrN t := by rw [Fi.adrs_eq, g6]
  have hR : Fi.chkR 1 (a.map strB) s true ws = (0, 0) := by
    unfold Fi.chkR
    rw [vA_spec g3 g4 k1, noClosed_nil k2, hadr, Bool.and_true, if_pos rfl, if_neg (by decide)]
    exact Fi.go_free r1 (fun z hz => by rw [List.length_map]; exact r2 z hz) (fun y hy => by cases hy)
  refine (check_any 1 v1 s1 w' (a.map strB) s ws true w g1 g2 g5 (fun W hb => ?_) (fun _ j hj => ?_) (by rw [hadr]; omega)).mono ?_
  · have hq := ranP given0 (n := 1000) (f := 22) (args := [iv, wv]) (H := c.hin) (v := .bool true) rfl h3 rfl (hr.below hb) hdw
    have hq2 := CallsF.calls Tryz.func22 (by kernel_rfl) (by kernel_rfl) hq
    refine Calls.mono hq2 fun e w2 he => ?_
    obtain ⟨x, rfl, hb2, hx2⟩ := he
    simp only [VR] at hx2
    exact ⟨by rw [hx2], hb2⟩
  · have hm : (fun x : Fi.Wr => (x.pos, x.n)) (ws.getD j Fi.wr0) ∈ t := by
      rw [← g6]
      exact List.mem_map_of_mem (Fi.getD_mem hj)
    exact r4 _ hm
  · rintro e w2 ⟨rfl, hb⟩
    rw [hR]
    exact ⟨hb, by simp [VR, VRs]⟩
end Sx
end Go.Proofs.YtiekfipjbmdkpaaGreatDoor
end
