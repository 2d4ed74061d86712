/-
  Plain laws: decoding what was encoded gives the maps.
-/
import Derived.Test.YtlcdhlfkffkifaaGreatDoorZA
import Derived.Test.YtlcdhlfkffkifaaGreatDoorZC
import Derived.Test.YtlcdhlfkffkifaaGreatDoorZB
import Derived.Deep.RegionHeld3
namespace Go.Proofs.YtlcdhlfkffkifaaGreatDoor
namespace Pm

theorem at_flat (f : List Nat) (P Q : List UInt8) (a : Nat) (ha : P.length = a) (hf : ∀ x ∈ f, x < 4294967296) (i : Nat) (hi : i < f.length) : at_ (P ++ f.flatMap (le 4) ++ Q) (a + 4 * i) 4 = f.getD i 0 := by
  induction f generalizing P a i with
  | nil => simp at hi
  | cons x t ih =>
    cases i with
    | zero =>
      rw [List.flatMap_cons, ← List.append_assoc, List.append_assoc (P ++ le 4 x)]
      have := at_mid P (t.flatMap (le 4) ++ Q) 4 x (hf x (by simp)) a ha
      simpa using this
    | succ i =>
      rw [List.flatMap_cons, ← List.append_assoc]
      have := ih (P ++ le 4 x) (a + 4) (by rw [List.length_append, le_len, ha]) (fun y hy => hf y (by simp [hy])) i (by simpa using hi)
      rw [show a + 4 * (i + 1) = a + 4 + 4 * i by omega, this]
      rfl

theorem flat_len (f : List Int) : (f.flatMap fun t => le 4 t.toNat).length = 4 * f.length := by
  induction f with
  | nil => rfl
  | cons x t ih => rw [List.flatMap_cons, List.length_append, le_len, ih, List.length_cons]; omega

theorem valid_kind {x : M} (h : valid x = true) : 0 ≤ x.kind ∧ x.kind ≤ 3 := by
  simp only [valid, Bool.and_eq_true, decide_eq_true_eq] at h
  exact ⟨h.1.1.1.1.1.1.1.1.1, h.1.1.1.1.1.1.1.1.2⟩
theorem valid_number {x : M} (h : valid x = true) : 0 ≤ x.number ∧ x.number ≤ 65535 := by
  simp only [valid, Bool.and_eq_true, decide_eq_true_eq] at h
  exact ⟨h.1.1.1.1.1.1.1.2, h.1.1.1.1.1.1.2⟩
theorem valid_tables {x : M} (h : valid x = true) : if x.kind = 2 then 1 ≤ x.tables.length ∧ x.tables.length ≤ 4 else x.tables = [] := by
  simp only [valid, Bool.and_eq_true] at h
  have := h.1.1.1.1.1.2
  split at this
  · rename_i hk; rw [if_pos hk]; simpa using this
  · rename_i hk; rw [if_neg hk]; simpa using this
theorem valid_words {x : M} (h : valid x = true) : ∀ t ∈ x.tables, 0 ≤ t ∧ t < 4294967296 := by
  simp only [valid, Bool.and_eq_true] at h
  intro t ht
  have := List.all_eq_true.1 h.1.1.1.2 t ht
  simpa [word] using this
theorem valid_three {x : M} (h : valid x = true) : (0 ≤ x.file ∧ x.file < 4294967296) ∧ (0 ≤ x.mirror ∧ x.mirror < 4294967296) ∧ (0 ≤ x.bitmap ∧ x.bitmap < 4294967296) := by
  simp only [valid, Bool.and_eq_true] at h
  refine ⟨?_, ?_, ?_⟩
  · simpa [word] using h.1.1.2
  · simpa [word] using h.1.2
  · simpa [word] using h.2
theorem valid_zero {x : M} (h : valid x = true) (hk : ¬ x.kind = 3) : x.file = 0 ∧ x.mirror = 0 ∧ x.bitmap = 0 := by
  simp only [valid, Bool.and_eq_true] at h
  have := h.1.1.1.1.2
  rw [if_neg hk] at this
  simpa using this

theorem name_id {k : Int} (_h : ¬ k = 0) : Cs.idR (nameOf k) = true := by
  unfold nameOf
  split
  · decide +kernel
  · split <;> decide +kernel
theorem kind_name {k : Int} (_h0 : 0 ≤ k) (_h3 : k ≤ 3) (_h : ¬ k = 0) : kindOf (nameOf k) = k := by
  have : k = 1 ∨ k = 2 ∨ k = 3 := by omega
  rcases this with rfl | rfl | rfl <;> decide +kernel
theorem body_len {x : M} (h : valid x = true) : (body x).length ≤ 24 := by
  have ht := valid_tables h
  unfold body
  split
  · rename_i hk
    rw [if_pos hk] at ht
    simp only [List.length_append, le_len, flat_len]
    omega
  · split
    · simp only [List.length_append, le_len]; omega
    · simp
theorem big_len {x : M} (_h : valid x = true) (hk : ¬ x.kind = 0) : (big x).length = 40 + (body x).length := by
  unfold big
  have := Cs.entB_len (i := nameOf x.kind) (s := [1, 2]) (Cs.idR_len (name_id hk)).2 (by simp)
  simp only [List.length_append, le_len, this]
  simp
theorem bytes_len {x : M} (h : valid x = true) : (bytes x).length = if x.kind = 0 then 6 else 64 := by
  unfold bytes
  by_cases hk : x.kind = 0
  · rw [if_pos hk, if_pos hk]; simp [le_len]
  · rw [if_neg hk, if_neg hk, List.length_append, List.length_replicate, big_len h hk]
    have := body_len h
    omega

theorem ext_tabs (l : List Int) (f : Nat → Int) (n : Nat) (hn : n = l.length) (h : ∀ i, i < l.length → f i = l.getD i 0) : (List.range n).map f = l := by
  subst hn
  apply List.ext_getElem
  · simp
  · intro i h1 h2
    have := h i h2
    simp [List.getD, h2] at this
    simp [this]

theorem getD_map (l : List Int) (i : Nat) (h : i < l.length) : (l.map Int.toNat).getD i 0 = (l.getD i 0).toNat := by
  simp [List.getD, h]

/-- One map behind its own bytes. -/
theorem step_of {x : M} (h : valid x = true) (rest : List UInt8) : stepR (bytes x ++ rest) = (x, (bytes x).length, 0) := by
  have hl := bytes_len h
  obtain ⟨n0, n1⟩ := valid_number h
  have hn : x.number.toNat < 256 ^ 2 := by omega
  have hnn : ((x.number.toNat : Nat) : Int) = x.number := by omega
  by_cases hk : x.kind = 0
  · rw [if_pos hk] at hl
    have hlen : ¬ ((bytes x ++ rest).length < 2 ∨ (bytes x ++ rest).length < Cs.byt (bytes x ++ rest) 1) := by
      have hb : Cs.byt (bytes x ++ rest) 1 = 6 := by unfold bytes; rw [if_pos hk]; rfl
      rw [hb, List.length_append, hl]; omega
    have e : bytes x ++ rest = ([1, 6] ++ le 2 1) ++ le 2 x.number.toNat ++ rest := by
      unfold bytes; rw [if_pos hk]
    have h0 : Cs.byt (bytes x ++ rest) 0 = 1 := by rw [e]; rfl
    have h1 : Cs.byt (bytes x ++ rest) 1 = 6 := by rw [e]; rfl
    have ha : at_ (bytes x ++ rest) 4 2 = x.number.toNat := by rw [e]; exact at_mid _ _ _ _ hn _ rfl
    have ht := valid_tables h
    rw [if_neg (by omega)] at ht
    obtain ⟨z1, z2, z3⟩ := valid_zero h (by omega)
    unfold stepR
    rw [if_neg hlen, if_pos h0, if_pos h1, ha, hl, hnn]
    exact Prod.ext (M.ext' hk.symm rfl ht.symm z1.symm z2.symm z3.symm) rfl
  · rw [if_neg hk] at hl
    have hent := Cs.entB_len (i := nameOf x.kind) (s := [1, 2]) (Cs.idR_len (name_id hk)).2 (by simp)
    have e : bytes x ++ rest = [2, 64, 0, 0] ++ Cs.entB (nameOf x.kind) [1, 2] ++ le 2 1 ++ le 2 x.number.toNat ++ (body x ++ (List.replicate (64 - (big x).length) 0 ++ rest)) := by
      unfold bytes; rw [if_neg hk]; unfold big; simp only [List.append_assoc]
    generalize hS : List.replicate (64 - (big x).length) (0 : UInt8) ++ rest = S at e
    have h0 : Cs.byt (bytes x ++ rest) 0 = 2 := by rw [e]; rfl
    have h1 : Cs.byt (bytes x ++ rest) 1 = 64 := by rw [e]; rfl
    have hlen : ¬ ((bytes x ++ rest).length < 2 ∨ (bytes x ++ rest).length < Cs.byt (bytes x ++ rest) 1) := by
      rw [h1, List.length_append, hl]; omega
    have hp : ((bytes x ++ rest).drop 4).take 32 = Cs.entB (nameOf x.kind) [1, 2] := by
      rw [e, List.append_assoc, List.append_assoc, List.append_assoc]
      have hd : ∀ Z : List UInt8, (([2, 64, 0, 0] : List UInt8) ++ Z).drop 4 = Z := fun _ => rfl
      rw [hd]
      exact List.take_left' hent
    have hpent := Cs.pent_of (name_id hk) (show ([1, 2] : List UInt8).length ≤ 8 by simp)
    have hpre : ([2, 64, 0, 0] ++ Cs.entB (nameOf x.kind) [1, 2] ++ le 2 1).length = 38 := by
      simp only [List.length_append, le_len, hent]; rfl
    have hnum : at_ (bytes x ++ rest) 38 2 = x.number.toNat := by rw [e]; exact at_mid _ _ _ _ hn _ hpre
    obtain ⟨k0, k3⟩ := valid_kind h
    have hkn := kind_name k0 k3 hk
    have ht := valid_tables h
    have hpre2 : ([2, 64, 0, 0] ++ Cs.entB (nameOf x.kind) [1, 2] ++ le 2 1 ++ le 2 x.number.toNat).length = 40 := by
      rw [List.length_append, hpre, le_len]
    generalize hQ : [2, 64, 0, 0] ++ Cs.entB (nameOf x.kind) [1, 2] ++ le 2 1 ++ le 2 x.number.toNat = Q at e hpre2
    unfold stepR
    rw [if_neg hlen, if_neg (by omega), if_pos h0, if_pos h1]
    unfold stepB
    rw [hp, hpent, if_neg (by simp)]
    simp only []
    rw [hkn, if_neg hk]
    have hk3 : x.kind = 1 ∨ x.kind = 2 ∨ x.kind = 3 := by omega
    rcases hk3 with k1 | k1 | k1
    · rw [if_neg (by omega), if_neg (by omega), hnum, hl, hnn]
      rw [if_neg (by omega)] at ht
      obtain ⟨z1, z2, z3⟩ := valid_zero h (by omega)
      exact Prod.ext (M.ext' k1.symm rfl ht.symm z1.symm z2.symm z3.symm) rfl
    · rw [if_pos k1]
      rw [if_pos k1] at ht
      have hb : body x = le 2 8 ++ le 1 x.tables.length ++ le 1 0 ++ le 4 120 ++ x.tables.flatMap (fun t => le 4 t.toNat) := by unfold body; rw [if_pos k1]
      have a1 : at_ (bytes x ++ rest) 40 2 = 8 := by
        rw [e, hb]; simp only [← List.append_assoc]
        have := at_mid Q (le 1 x.tables.length ++ le 1 0 ++ le 4 120 ++ (x.tables.flatMap fun t => le 4 t.toNat) ++ S) 2 8 (by decide) 40 hpre2
        simpa only [← List.append_assoc] using this
      have a2 : at_ (bytes x ++ rest) 42 1 = x.tables.length := by
        rw [e, hb]; simp only [← List.append_assoc]
        have := at_mid (Q ++ le 2 8) (le 1 0 ++ le 4 120 ++ (x.tables.flatMap fun t => le 4 t.toNat) ++ S) 1 x.tables.length (by omega) 42 (by rw [List.length_append, hpre2, le_len])
        simpa only [← List.append_assoc] using this
      have a3 : tabs (bytes x ++ rest) x.tables.length = x.tables := by
        refine ext_tabs _ _ _ rfl fun i hi => ?_
        have hw := valid_words h
        have hm : x.tables.flatMap (fun t => le 4 t.toNat) = (x.tables.map Int.toNat).flatMap (le 4) := by rw [List.flatMap_map]
        rw [e, hb, hm]
        have := at_flat (x.tables.map Int.toNat) (Q ++ le 2 8 ++ le 1 x.tables.length ++ le 1 0 ++ le 4 120) S 48 (by simp only [List.length_append, hpre2, le_len]) (fun y hy => by
          obtain ⟨z, hz, rfl⟩ := List.mem_map.1 hy
          have := hw z hz
          omega) i (by simpa using hi)
        simp only [← List.append_assoc] at this ⊢
        rw [this, getD_map _ _ hi]
        have := hw (x.tables.getD i 0) (by simp [List.getD, hi])
        omega
      obtain ⟨z1, z2, z3⟩ := valid_zero h (by omega)
      rw [a1, if_neg (by omega), a2, if_neg (by omega), a3, hnum, hl, hnn]
      exact Prod.ext (M.ext' k1.symm rfl rfl z1.symm z2.symm z3.symm) rfl
    · rw [if_neg (by omega), if_pos k1]
      rw [if_neg (by omega)] at ht
      have hb : body x = le 4 x.file.toNat ++ le 4 x.mirror.toNat ++ le 4 x.bitmap.toNat ++ le 4 8 ++ le 2 8 ++ le 1 1 := by unfold body; rw [if_neg (by omega), if_pos k1]
      obtain ⟨⟨f0, f1⟩, ⟨m0, m1⟩, ⟨b0, b1⟩⟩ := valid_three h
      have a1 : at_ (bytes x ++ rest) 40 4 = x.file.toNat := by
        rw [e, hb]; simp only [← List.append_assoc]
        have := at_mid Q (le 4 x.mirror.toNat ++ le 4 x.bitmap.toNat ++ le 4 8 ++ le 2 8 ++ le 1 1 ++ S) 4 x.file.toNat (by omega) 40 hpre2
        simpa only [← List.append_assoc] using this
      have a2 : at_ (bytes x ++ rest) 44 4 = x.mirror.toNat := by
        rw [e, hb]; simp only [← List.append_assoc]
        have := at_mid (Q ++ le 4 x.file.toNat) (le 4 x.bitmap.toNat ++ le 4 8 ++ le 2 8 ++ le 1 1 ++ S) 4 x.mirror.toNat (by omega) 44 (by rw [List.length_append, hpre2, le_len])
        simpa only [← List.append_assoc] using this
      have a3 : at_ (bytes x ++ rest) 48 4 = x.bitmap.toNat := by
        rw [e, hb]; simp only [← List.append_assoc]
        have := at_mid (Q ++ le 4 x.file.toNat ++ le 4 x.mirror.toNat) (le 4 8 ++ le 2 8 ++ le 1 1 ++ S) 4 x.bitmap.toNat (by omega) 48 (by simp only [List.length_append, hpre2, le_len])
        simpa only [← List.append_assoc] using this
      rw [a1, a2, a3, hnum, hl, hnn]
      exact Prod.ext (M.ext' k1.symm rfl ht.symm (show ((x.file.toNat : Nat) : Int) = x.file by omega) (show ((x.mirror.toNat : Nat) : Int) = x.mirror by omega) (show ((x.bitmap.toNat : Nat) : Int) = x.bitmap by omega)) rfl

theorem decN_of (l : List M) (h : l.all valid = true) (acc : List M) : decN l.length (l.flatMap bytes) acc = (acc ++ l, 0) := by
  induction l generalizing acc with
  | nil => simp [decN]
  | cons x t ih =>
    simp only [List.all_cons, Bool.and_eq_true] at h
    rw [List.flatMap_cons, List.length_cons, decN, step_of h.1, if_neg (by simp)]
    simp only [List.drop_left]
    rw [ih h.2]
    simp
theorem bytes_pos {x : M} (h : valid x = true) : 0 < (bytes x).length := by
  rw [bytes_len h]; split <;> omega
theorem stepR_nil : stepR [] = (none, 0, 10) := rfl
theorem decN_more (l : List M) (h : l.all valid = true) (acc : List M) : (decN (l.length + 1) (l.flatMap bytes) acc).2 ≠ 0 := by
  induction l generalizing acc with
  | nil => simp [decN, stepR_nil]
  | cons x t ih =>
    simp only [List.all_cons, Bool.and_eq_true] at h
    rw [List.flatMap_cons, List.length_cons, decN, step_of h.1, if_neg (by simp)]
    simp only [List.drop_left]
    exact ih h.2 _
theorem decN_less (l : List M) (h : l.all valid = true) (acc : List M) (hl : l ≠ []) : (decN (l.length - 1) (l.flatMap bytes) acc).2 ≠ 0 := by
  induction l generalizing acc with
  | nil => exact absurd rfl hl
  | cons x t ih =>
    simp only [List.all_cons, Bool.and_eq_true] at h
    have hp := bytes_pos h.1
    cases t with
    | nil =>
      simp only [List.length_cons, List.length_nil, Nat.zero_add, Nat.sub_self, decN, List.flatMap_cons, List.flatMap_nil, List.append_nil]
      rw [if_neg (by intro hc; rw [hc] at hp; simp at hp)]
      simp
    | cons y t =>
      rw [List.flatMap_cons, show (x :: y :: t).length - 1 = (y :: t).length - 1 + 1 by simp, decN, step_of h.1, if_neg (by simp)]
      simp only [List.drop_left]
      exact ih h.2 _ (by simp)
/-- What law Returns asks. -/
theorem returns_of {l : List M} (h : all l = true) : decR (l.flatMap bytes) l.length = (l, 0) ∧ (decR (l.flatMap bytes) (l.length + 1)).2 ≠ 0 ∧ (decR (l.flatMap bytes) ((l.length : Int) - 1)).2 ≠ 0 := by
  unfold all at h
  simp only [Bool.and_eq_true, decide_eq_true_eq] at h
  obtain ⟨hl, hv⟩ := h
  unfold decR
  refine ⟨?_, ?_, ?_⟩
  · rw [if_neg (by omega), if_neg (by omega), Int.toNat_natCast, decN_of l hv]; rfl
  · rw [if_neg (by omega)]
    split
    · decide
    · rw [show ((l.length : Int) + 1).toNat = l.length + 1 by omega]
      exact decN_more l hv []
  · by_cases h0 : l = []
    · subst h0; decide
    · have : 0 < l.length := List.length_pos_iff.2 h0
      rw [if_neg (by omega), if_neg (by omega), show ((l.length : Int) - 1).toNat = l.length - 1 by omega]
      exact decN_less l hv [] h0
end Pm
end Go.Proofs.YtlcdhlfkffkifaaGreatDoor

/-
  The walk through partitionmap.bytes.
-/
namespace Go.Proofs.YtlcdhlfkffkifaaGreatDoor
open Go.RowKit
namespace Pm
theorem leR_of {n : Int} {k : Nat} (h0 : 0 ≤ n) (h1 : n < 256 ^ k) : leR n k = le k n.toNat := by
  unfold leR fitsB
  rw [decide_eq_true h0, decide_eq_true h1]
  simp
theorem leR_len (n : Int) (k : Nat) : (leR n k).length ≤ k := by
  unfold leR
  split
  · rw [le_len]; exact Nat.le_refl _
  · simp
/-- The numbers of a list, four bytes each. -/
def flatR (ts : List Int) : List UInt8 := ts.flatMap fun t => leR t 4
theorem flatR_of {ts : List Int} (h : ∀ t ∈ ts, 0 ≤ t ∧ t < 4294967296) : flatR ts = ts.flatMap fun t => le 4 t.toNat := by
  unfold flatR
  induction ts with
  | nil => rfl
  | cons x t ih =>
    rw [List.flatMap_cons, List.flatMap_cons, ih (fun y hy => h y (by simp [hy])), leR_of (h x (by simp)).1 (h x (by simp)).2]
theorem flatR_len (ts : List Int) : (flatR ts).length ≤ 4 * ts.length := by
  unfold flatR
  induction ts with
  | nil => simp
  | cons x t ih =>
    have := leR_len x 4
    rw [List.flatMap_cons, List.length_append, List.length_cons]
    omega
theorem flatR_snoc (ts : List Int) (j : Nat) (h : j < ts.length) : flatR (ts.take (j + 1)) = flatR (ts.take j) ++ leR (ts.getD j 0) 4 := by
  unfold flatR
  rw [List.take_succ_eq_append_getElem h, List.flatMap_append]
  simp [List.getD, h]
end Pm

set_option maxHeartbeats 6400000 in
set_option maxRecDepth 100000 in
/-- partitionmap.bytes of a physical map. -/
theorem bytes_zero (x : Pm.M) (tv : Value) (w : World) (hr : Kit.RowS w tv (Kit.izs x.tables)) (hv : Pm.valid x = true) (hk : x.kind = 0) :
    Calls Tryz.prog 28 #[Pm.pmV x tv] w fun e w' => e = .returned (.string ⟨(Pm.bytes x).toArray⟩) ∧ Below w.heap.size w w' := by
  have hn := Pm.valid_number hv
  have hR : Pm.bytes x = [1, 6] ++ Pm.leR 1 2 ++ Pm.leR x.number 2 := by
    unfold Pm.bytes
    rw [if_pos hk, Pm.leR_of (by decide) (by decide), Pm.leR_of hn.1 (by omega)]
    rfl
  have HR := Lib.hid hR
  have C1 := Lib.hid (fun W => pLittle_any 1 2 (by unfold Pm.Sz; omega) W)
  have C2 := Lib.hid (fun W => pLittle_any x.number 2 (by unfold Pm.Sz; omega) W)
  clear hR hv
  generalize Pm.bytes x = bx at *
  unfold Pm.pmV
  obtain ⟨k, n, t, f, m, b⟩ := x
  simp only [] at *
  subst hk
  obtain ⟨⟨A, c, rfl, hlc, hcm, _⟩, _⟩ := hr
  rw [Kit.izs_length] at *
  clear hn hlc hcm
  have hl1 := Pm.leR_len 1 2
  have hl2 := Pm.leR_len n 2
  generalize Pm.leR 1 2 = l1 at *
  generalize Pm.leR n 2 = l2 at *
  have hcell : ∀ x : Later (w.heap.size + 1) (w.alloc (.cells #[.int .i64 0, .int .i64 n, .slice A t.length c, .int .i64 f, .int .i64 m, .int .i64 b] 59)), x.to.cell? ⟨w.heap.size, 1, none⟩ = some (.int .i64 n) := fun x => later_cell x (by omega) (by rw [World.cell?_alloc_at _ _ _ _ (by simp)]; simp)
  go_enter Tryz.func28, Tryz.ntmps28
  go_wp2_with fail
  refine wp_region_later (w.heap.size + 1) (by kernel_rfl) (by kernel_rfl) ?_
  repeat (any_goals (first | go_big_quiet_skip | (go_big_quiet_want; go_big_quiet_op; first | go_big_quiet_on | (apply Exists.intro; refine ⟨fun _ => ?_, ?_⟩; (first | (with_reducible refine Calls.later_of ?_ (C1.out _); simp) | (with_reducible refine Calls.later_of ?_ (C2.out _); simp)); go_big_quiet_on))))
  refine wpQuiet_nil ?_
  intro wq hw'
  obtain ⟨⟨wz, hbq⟩, hw''⟩ := hw'
  subst hw''
  go_wp2_with fail
  go_ret
  refine ⟨?_, ((Below.refl _ w).alloc (Nat.le_refl _) _).trans (hbq.mono (by simp))⟩
  rw [HR.out]
  exact congrArg (fun s => Ending.returned (.string s)) ((congrArg (· ++ (⟨l2.toArray⟩ : ByteArray)) (Kit.append_mk [1, 6] l1)).trans (Kit.append_mk ([1, 6] ++ l1) l2))
end Go.Proofs.YtlcdhlfkffkifaaGreatDoor

/-
  The walk through partitionmap.bytes: maps of 64 bytes, one kind.
-/
namespace Go.Proofs.YtlcdhlfkffkifaaGreatDoor
open Go.RowKit

set_option maxHeartbeats 6400000 in
set_option maxRecDepth 100000 in
/-- partitionmap.bytes, one kind. -/
theorem bytes_k1 (x : Pm.M) (tv : Value) (w : World) (hr : Kit.RowS w tv (Kit.izs x.tables)) (hv : Pm.valid x = true) (hk : x.kind = 1) :
    Calls Tryz.prog 28 #[Pm.pmV x tv] w fun e w' => e = .returned (.string ⟨(Pm.bytes x).toArray⟩) ∧ Below w.heap.size w w' := by
  have hn := Pm.valid_number hv
  have hbl := Pm.big_len hv (by omega)
  have hbo := Pm.body_len hv
  have hR : Pm.bytes x = Pm.big x ++ List.replicate (64 - (Pm.big x).length) 0 := by
    unfold Pm.bytes
    rw [if_neg (by omega)]
  have hN : Cs.entR (Pm.nameOf x.kind) [1, 2] = (Cs.entB (Pm.nameOf x.kind) [1, 2], 0) := Cs.entR_ok (Pm.name_id (by omega)) (by decide)
  have hNl := Cs.idR_len (Pm.name_id (k := x.kind) (by omega))
  have hEl := Cs.entB_len (i := Pm.nameOf x.kind) (s := [1, 2]) hNl.2 (by decide)
  have cE := fun W => entity_any ⟨(Pm.nameOf x.kind).toArray⟩ ⟨#[1, 2]⟩ W (by rw [lb_size]; omega) (by decide)
  rw [show ((⟨(Pm.nameOf x.kind).toArray⟩ : ByteArray).data.toList) = Pm.nameOf x.kind by simp, show ((⟨#[1, 2]⟩ : ByteArray).data.toList) = [1, 2] from rfl, hN] at cE
  have hI : (if x.kind = 1 then Pm.nameV else if x.kind = 2 then Pm.nameS else if x.kind = 3 then Pm.nameM else []) = Pm.nameOf x.kind := by rw [hk]; rfl
  have cI := fun (W : World) (b : Nat) (h : SMap W b 3 idD) => id_at x.kind W b h (by rw [hk]; decide)
  rw [hI] at cI
  have hB : Pm.big x = [2, 64, 0, 0] ++ Cs.entB (Pm.nameOf x.kind) [1, 2] ++ Pm.leR 1 2 ++ Pm.leR x.number 2 := by
    unfold Pm.big Pm.body
    rw [if_neg (by omega), if_neg (by omega), Pm.leR_of (n := 1) (by decide) (by decide), Pm.leR_of hn.1 (by omega), List.append_nil]
    rfl
  have HR := Lib.hid hR
  have HB := Lib.hid hB
  have CE := Lib.hid cE
  have CI := Lib.hid cI
  have C1 := Lib.hid (fun W => pLittle_any 1 2 (by unfold Pm.Sz; omega) W)
  have C2 := Lib.hid (fun W => pLittle_any x.number 2 (by unfold Pm.Sz; omega) W)
  have hl1 := Pm.leR_len 1 2
  have hl2 := Pm.leR_len x.number 2
  clear hR hB cE cI hv hN hI
  have HGX := Lib.hid (show (Pm.big x).length ≤ 64 by omega)
  generalize Pm.bytes x = bx at *
  generalize Pm.big x = gx at *
  generalize Cs.entB (Pm.nameOf x.kind) [1, 2] = eb at *
  generalize Pm.nameOf x.kind = N at *
  unfold Pm.pmV
  obtain ⟨k, n, t, f, m, b⟩ := x
  simp only [] at *
  subst hk
  have HRow := Lib.hid hr
  obtain ⟨⟨A, c, rfl, hlc, hcm, _⟩, _⟩ := hr
  rw [Kit.izs_length] at *
  unfold maxLen at hcm
  clear hn
  clear hlc hcm HRow
  generalize Pm.leR 1 2 = l1 at *
  generalize Pm.leR n 2 = l2 at *
  have hbx : ∀ j u, (#[.int .i64 1, .int .i64 n, .slice A t.length c, .int .i64 f, .int .i64 m, .int .i64 b] : Array Value)[j]? = some u → (w.alloc (.cells #[.int .i64 1, .int .i64 n, .slice A t.length c, .int .i64 f, .int .i64 m, .int .i64 b] 59)).cell? ⟨w.heap.size, j, none⟩ = some u := fun j u hu => by rw [World.cell?_alloc_at _ _ _ _ (by simp)]; simpa using hu
  have HBX := Lib.hid hbx
  clear hbx
  go_enter Tryz.func28, Tryz.ntmps28
  go_wp2_with fail
  go_region_held3 (fun w' => w'.cell? ⟨w.heap.size, 0, none⟩ = some (.int .i64 1)) (first | assumption | exact HBX.out 0 _ rfl) (first | (go_at_call 52; refine (identifiers_any _).mono ?_; rintro e w2 ⟨mb, rfl, hmb, hmap, hb2⟩; have hlk := CI.out _ _ hmap; have hs2 := (hb2.cell (p := ⟨w.heap.size, 0, none⟩) (by simp)).trans (by assumption)) | (go_at_call 51; with_reducible refine (CE.out _).mono ?_; rintro e w3 ⟨rfl, hb3⟩; have hs3 := (hb3.cell (p := ⟨w.heap.size, 0, none⟩) (World.block_lt_of_cell? _ _ hs2)).trans hs2))
  have hc3 : Below (w.heap.size + 1) (w.alloc (.cells #[.int .i64 1, .int .i64 n, .slice A t.length c, .int .i64 f, .int .i64 m, .int .i64 b] 59)) w3 := ((Below.refl _ _).drew).trans ((hb2.mono (by simp)).trans (hb3.mono (by have := hb2.size; simpa using this)))
  have HC := Lib.hid hc3
  have HX3 := Lib.hid (fun j u hu => (hc3.cell (p := ⟨w.heap.size, j, none⟩) (by simp)).trans (HBX.out j u hu))
  have hH3 : w.heap.size < w3.heap.size := by have := hc3.size; simp at this; omega
  clear hc3 hb2 hb3 hs2 hs3 hmap hmb hlk HBX
  have hcell : ∀ x : Later w3.heap.size w3, x.to.cell? ⟨w.heap.size, 1, none⟩ = some (.int .i64 n) := fun x => later_cell x hH3 (HX3.out 1 _ rfl)
  go_wp2_with fail
  refine wp_region_later w3.heap.size (by kernel_rfl) (by kernel_rfl) ?_
  repeat (any_goals (first | go_big_quiet_skip | (go_big_quiet_want; go_big_quiet_op; first | go_big_quiet_on | (apply Exists.intro; refine ⟨fun _ => ?_, ?_⟩; (first | (with_reducible refine Calls.later_of ?_ (C1.out _); simp) | (with_reducible refine Calls.later_of ?_ (C2.out _); simp)); go_big_quiet_on))))
  refine wpQuiet_nil ?_
  intro wq hw'
  obtain ⟨⟨wz, hbq⟩, hw''⟩ := hw'
  subst hw''
  clear hcell
  have HC4 := Lib.hid (HC.out.trans (hbq.mono (by simpa using HC.out.size)))
  have HX4 := Lib.hid (fun j u hu => (hbq.cell (p := ⟨w.heap.size, j, none⟩) hH3).trans (HX3.out j u hu))
  have hH4 : w.heap.size < wq.heap.size := Nat.lt_of_lt_of_le hH3 hbq.size
  clear hbq HX3 HC hH3
  have h0 := HX4.out 0 _ rfl
  have hz : (64 - (36 + (l1.length : Int) + (l2.length : Int))).toNat = 64 - gx.length := by
    have := congrArg List.length HB.out
    simp only [List.length_append, List.length_cons, List.length_nil, hEl] at this
    omega
  have HZ := Lib.hid hz
  have hcat : (⟨#[2, 64, 0, 0]⟩ : ByteArray) ++ ⟨eb.toArray⟩ ++ ⟨l1.toArray⟩ ++ ⟨l2.toArray⟩ = ⟨gx.toArray⟩ := by
    rw [HB.out, show (⟨#[2, 64, 0, 0]⟩ : ByteArray) = ⟨([2, 64, 0, 0] : List UInt8).toArray⟩ from rfl]
    simp only [Kit.append_mk]
  have HCAT := Lib.hid hcat
  clear hz hcat hbo hbl
  go_wp2_with fail
  with_reducible refine (zeros_any _ ?z1 ?z2 _).mono ?_
  case z1 => omega
  case z2 => omega
  rintro e w5 ⟨rfl, hb5⟩
  rw [HZ.out]
  go_wp2_with fail
  go_ret
  refine ⟨?_, (((Below.refl _ w).alloc (Nat.le_refl _) _).trans (HC4.out.mono (by simp))).trans (hb5.mono (by have := HC4.out.size; simp at this; omega))⟩
  rw [HR.out]
  exact congrArg (fun s => Ending.returned (.string s)) ((congrArg (· ++ (⟨(List.replicate (64 - gx.length) (0 : UInt8)).toArray⟩ : ByteArray)) HCAT.out).trans (Kit.append_mk gx _))
end Go.Proofs.YtlcdhlfkffkifaaGreatDoor

/-
  The walk through partitionmap.bytes: maps of 64 bytes, one kind.
-/
namespace Go.Proofs.YtlcdhlfkffkifaaGreatDoor
open Go.RowKit

set_option maxHeartbeats 6400000 in
set_option maxRecDepth 100000 in
/-- partitionmap.bytes, one kind. -/
theorem bytes_k2 (x : Pm.M) (tv : Value) (w : World) (hr : Kit.RowS w tv (Kit.izs x.tables)) (hv : Pm.valid x = true) (hk : x.kind = 2) :
    Calls Tryz.prog 28 #[Pm.pmV x tv] w fun e w' => e = .returned (.string ⟨(Pm.bytes x).toArray⟩) ∧ Below w.heap.size w w' := by
  have hn := Pm.valid_number hv
  have hbl := Pm.big_len hv (by omega)
  have hbo := Pm.body_len hv
  have hR : Pm.bytes x = Pm.big x ++ List.replicate (64 - (Pm.big x).length) 0 := by
    unfold Pm.bytes
    rw [if_neg (by omega)]
  have hN : Cs.entR (Pm.nameOf x.kind) [1, 2] = (Cs.entB (Pm.nameOf x.kind) [1, 2], 0) := Cs.entR_ok (Pm.name_id (by omega)) (by decide)
  have hNl := Cs.idR_len (Pm.name_id (k := x.kind) (by omega))
  have hEl := Cs.entB_len (i := Pm.nameOf x.kind) (s := [1, 2]) hNl.2 (by decide)
  have cE := fun W => entity_any ⟨(Pm.nameOf x.kind).toArray⟩ ⟨#[1, 2]⟩ W (by rw [lb_size]; omega) (by decide)
  rw [show ((⟨(Pm.nameOf x.kind).toArray⟩ : ByteArray).data.toList) = Pm.nameOf x.kind by simp, show ((⟨#[1, 2]⟩ : ByteArray).data.toList) = [1, 2] from rfl, hN] at cE
  have hI : (if x.kind = 1 then Pm.nameV else if x.kind = 2 then Pm.nameS else if x.kind = 3 then Pm.nameM else []) = Pm.nameOf x.kind := by rw [hk]; rfl
  have cI := fun (W : World) (b : Nat) (h : SMap W b 3 idD) => id_at x.kind W b h (by rw [hk]; decide)
  rw [hI] at cI
  have htl := Pm.valid_tables hv
  rw [if_pos hk] at htl
  have hwd := Pm.valid_words hv
  have hB : Pm.big x = [2, 64, 0, 0] ++ Cs.entB (Pm.nameOf x.kind) [1, 2] ++ Pm.leR 1 2 ++ Pm.leR x.number 2 ++ (Pm.leR 8 2 ++ Pm.leR x.tables.length 1 ++ Pm.leR 0 1 ++ Pm.leR 120 4) ++ Pm.flatR x.tables := by
    unfold Pm.big Pm.body
    rw [if_pos hk, Pm.leR_of (n := 1) (by decide) (by decide), Pm.leR_of (n := x.number) hn.1 (by omega), Pm.leR_of (n := 8) (by decide) (by decide), Pm.leR_of (n := x.tables.length) (by omega) (by omega), Pm.leR_of (n := 0) (by decide) (by decide), Pm.leR_of (n := 120) (by decide) (by decide), Pm.flatR_of hwd]
    simp only [Int.toNat_natCast, List.append_assoc]
    rfl
  clear hwd
  have HR := Lib.hid hR
  have HB := Lib.hid hB
  have CE := Lib.hid cE
  have CI := Lib.hid cI
  have C1 := Lib.hid (fun W => pLittle_any 1 2 (by unfold Pm.Sz; omega) W)
  have C2 := Lib.hid (fun W => pLittle_any x.number 2 (by unfold Pm.Sz; omega) W)
  have hl1 := Pm.leR_len 1 2
  have hl2 := Pm.leR_len x.number 2
  have C3 := Lib.hid (fun W => pLittle_any 8 2 (by unfold Pm.Sz; omega) W)
  have hl3 := Pm.leR_len 8 2
  have C4 := Lib.hid (fun W => pLittle_any (x.tables.length : Int) 1 (by unfold Pm.Sz; omega) W)
  have hl4 := Pm.leR_len (x.tables.length : Int) 1
  have C5 := Lib.hid (fun W => pLittle_any 0 1 (by unfold Pm.Sz; omega) W)
  have hl5 := Pm.leR_len 0 1
  have C6 := Lib.hid (fun W => pLittle_any 120 4 (by unfold Pm.Sz; omega) W)
  have hl6 := Pm.leR_len 120 4
  clear hR hB cE cI hv hN hI
  have HGX := Lib.hid (show (Pm.big x).length ≤ 64 by omega)
  generalize Pm.bytes x = bx at *
  generalize Pm.big x = gx at *
  generalize Cs.entB (Pm.nameOf x.kind) [1, 2] = eb at *
  generalize Pm.nameOf x.kind = N at *
  unfold Pm.pmV
  obtain ⟨k, n, t, f, m, b⟩ := x
  simp only [] at *
  subst hk
  have HRow := Lib.hid hr
  obtain ⟨⟨A, c, rfl, hlc, hcm, _⟩, _⟩ := hr
  rw [Kit.izs_length] at *
  unfold maxLen at hcm
  clear hn
  generalize Pm.leR 1 2 = l1 at *
  generalize Pm.leR n 2 = l2 at *
  generalize Pm.leR 8 2 = l3 at *
  generalize Pm.leR (t.length : Int) 1 = l4 at *
  generalize Pm.leR 0 1 = l5 at *
  generalize Pm.leR 120 4 = l6 at *
  have hbx : ∀ j u, (#[.int .i64 2, .int .i64 n, .slice A t.length c, .int .i64 f, .int .i64 m, .int .i64 b] : Array Value)[j]? = some u → (w.alloc (.cells #[.int .i64 2, .int .i64 n, .slice A t.length c, .int .i64 f, .int .i64 m, .int .i64 b] 59)).cell? ⟨w.heap.size, j, none⟩ = some u := fun j u hu => by rw [World.cell?_alloc_at _ _ _ _ (by simp)]; simpa using hu
  have HBX := Lib.hid hbx
  clear hbx
  go_enter Tryz.func28, Tryz.ntmps28
  go_wp2_with fail
  go_region_held3 (fun w' => w'.cell? ⟨w.heap.size, 0, none⟩ = some (.int .i64 2)) (first | assumption | exact HBX.out 0 _ rfl) (first | (go_at_call 52; refine (identifiers_any _).mono ?_; rintro e w2 ⟨mb, rfl, hmb, hmap, hb2⟩; have hlk := CI.out _ _ hmap; have hs2 := (hb2.cell (p := ⟨w.heap.size, 0, none⟩) (by simp)).trans (by assumption)) | (go_at_call 51; with_reducible refine (CE.out _).mono ?_; rintro e w3 ⟨rfl, hb3⟩; have hs3 := (hb3.cell (p := ⟨w.heap.size, 0, none⟩) (World.block_lt_of_cell? _ _ hs2)).trans hs2))
  have hc3 : Below (w.heap.size + 1) (w.alloc (.cells #[.int .i64 2, .int .i64 n, .slice A t.length c, .int .i64 f, .int .i64 m, .int .i64 b] 59)) w3 := ((Below.refl _ _).drew).trans ((hb2.mono (by simp)).trans (hb3.mono (by have := hb2.size; simpa using this)))
  have HC := Lib.hid hc3
  have HX3 := Lib.hid (fun j u hu => (hc3.cell (p := ⟨w.heap.size, j, none⟩) (by simp)).trans (HBX.out j u hu))
  have hH3 : w.heap.size < w3.heap.size := by have := hc3.size; simp at this; omega
  clear hc3 hb2 hb3 hs2 hs3 hmap hmb hlk HBX
  have hcell : ∀ x : Later w3.heap.size w3, x.to.cell? ⟨w.heap.size, 1, none⟩ = some (.int .i64 n) := fun x => later_cell x hH3 (HX3.out 1 _ rfl)
  go_wp2_with fail
  refine wp_region_later w3.heap.size (by kernel_rfl) (by kernel_rfl) ?_
  repeat (any_goals (first | go_big_quiet_skip | (go_big_quiet_want; go_big_quiet_op; first | go_big_quiet_on | (apply Exists.intro; refine ⟨fun _ => ?_, ?_⟩; (first | (with_reducible refine Calls.later_of ?_ (C1.out _); simp) | (with_reducible refine Calls.later_of ?_ (C2.out _); simp)); go_big_quiet_on))))
  refine wpQuiet_nil ?_
  intro wq hw'
  obtain ⟨⟨wz, hbq⟩, hw''⟩ := hw'
  subst hw''
  clear hcell
  have HC4 := Lib.hid (HC.out.trans (hbq.mono (by simpa using HC.out.size)))
  have HX4 := Lib.hid (fun j u hu => (hbq.cell (p := ⟨w.heap.size, j, none⟩) hH3).trans (HX3.out j u hu))
  have hH4 : w.heap.size < wq.heap.size := Nat.lt_of_lt_of_le hH3 hbq.size
  clear hbq HX3 HC hH3
  have h0 := HX4.out 0 _ rfl
  go_wp2_with fail
  have hcellt : ∀ x : Later wq.heap.size wq, x.to.cell? ⟨w.heap.size, 2, none⟩ = some (.slice A t.length c) := fun x => later_cell x hH4 (HX4.out 2 _ rfl)
  refine wp_region_later wq.heap.size (by kernel_rfl) (by kernel_rfl) ?_
  repeat (any_goals (first | go_big_quiet_skip | (go_big_quiet_want; go_big_quiet_op; first | go_big_quiet_on | (apply Exists.intro; refine ⟨fun _ => ?_, ?_⟩; (first | (with_reducible refine Calls.later_of ?_ (C3.out _); simp) | (with_reducible refine Calls.later_of ?_ (C4.out _); simp) | (with_reducible refine Calls.later_of ?_ (C5.out _); simp) | (with_reducible refine Calls.later_of ?_ (C6.out _); simp)); go_big_quiet_on))))
  refine wpQuiet_nil ?_
  intro wp hwp'
  obtain ⟨⟨wz2, hbp⟩, hwp''⟩ := hwp'
  subst hwp''
  have HC5 := Lib.hid (HC4.out.trans (hbp.mono (by simpa using HC4.out.size)))
  have h2 := (hbp.cell (p := ⟨w.heap.size, 2, none⟩) hH4).trans (HX4.out 2 _ rfl)
  clear hcellt h0 HX4 HC4 hH4 hbp
  have hg0 : (⟨#[2, 64, 0, 0]⟩ : ByteArray) ++ ⟨eb.toArray⟩ ++ ⟨l1.toArray⟩ ++ ⟨l2.toArray⟩ ++ ((⟨l3.toArray⟩ : ByteArray) ++ ⟨l4.toArray⟩ ++ ⟨l5.toArray⟩ ++ ⟨l6.toArray⟩) = ⟨([2, 64, 0, 0] ++ eb ++ l1 ++ l2 ++ (l3 ++ l4 ++ l5 ++ l6)).toArray⟩ := by
    rw [show (⟨#[2, 64, 0, 0]⟩ : ByteArray) = ⟨([2, 64, 0, 0] : List UInt8).toArray⟩ from rfl]
    simp only [Kit.append_mk]
  rw [hg0]
  clear hg0
  have hgl : ([2, 64, 0, 0] ++ eb ++ l1 ++ l2 ++ (l3 ++ l4 ++ l5 ++ l6)).length ≤ 48 := by
    simp only [List.length_append, List.length_cons, List.length_nil, hEl]; omega
  generalize [2, 64, 0, 0] ++ eb ++ l1 ++ l2 ++ (l3 ++ l4 ++ l5 ++ l6) = g0 at *
  have HRow5 := Lib.hid ((HRow.out.below ((Below.refl _ w).alloc (Nat.le_refl _) _)).below (HC5.out.mono (by simp)) |>.below (Below.refl _ _))
  have hfl := Pm.flatR_len
  have HFL := Lib.hid hfl
  clear hfl hl1 hl2 hl3 hl4 hl5 hl6
  obtain ⟨ht1, ht4⟩ := htl
  go_wp2_with fail
  go_loopw [5, 7, 52] (fun ov _ iv wr => ∃ j : Nat, j ≤ t.length ∧ iv = .int .i64 j ∧ ov = .string ⟨(g0 ++ Pm.flatR (t.take j)).toArray⟩ ∧ Below wp.heap.size wp wr) (fun _ _ iv _ => t.length - (intOf iv).toNat)
  case atStart => exact ⟨0, by omega, rfl, by simp [Pm.flatR], Below.refl _ _⟩
  case round =>
    obtain ⟨j, hj, rfl, rfl, hbr⟩ := hrel
    by_cases hlt : j < t.length
    · obtain ⟨b', o', c', hv', hbw', hcj⟩ := HRow5.out.1.at_izs hlt
      obtain ⟨rfl, _, rfl⟩ : A = some ⟨b', o', none⟩ ∧ t.length = t.length ∧ c = c' := by simpa using hv'
      clear hv'
      have hcr := (hbr.cell (p := ⟨b', o' + j, none⟩) hbw').trans hcj
      have CX := Lib.hid (fun W => pLittle_any (t.getD j 0) 4 (by unfold Pm.Sz; omega) W)
      have hs1 := Pm.flatR_snoc t j hlt
      have hf1 := HFL.out (t.take j)
      have hf2 := Pm.leR_len (t.getD j 0) 4
      have hf3 : (t.take j).length ≤ 4 := by rw [List.length_take]; omega
      have HS1 := Lib.hid (show g0 ++ Pm.flatR (t.take (j + 1)) = (g0 ++ Pm.flatR (t.take j)) ++ Pm.leR (t.getD j 0) 4 by rw [hs1, List.append_assoc])
      have hgo : (g0 ++ Pm.flatR (t.take j)).length ≤ 64 := by rw [List.length_append]; omega
      clear hs1 hf1 hf3 hcj hbw'
      generalize g0 ++ Pm.flatR (t.take j) = gj at *
      generalize Pm.leR (t.getD j 0) 4 = lx at *
      generalize t.getD j 0 = x at *
      go_wp2_with fail
      refine (CX.out _).mono ?_
      rintro e w6 ⟨rfl, hb6⟩
      go_wp2_with fail
      go_roundw
      case rel => exact ⟨j + 1, by omega, by go_num, by rw [HS1.out]; exact congrArg Value.string (Kit.append_mk gj lx), hbr.trans (hb6.mono hbr.size)⟩
      case measure => simp [intOf]; omega
    · obtain rfl : j = t.length := by omega
      rw [List.take_length]
      have hgx : g0 ++ Pm.flatR t = gx := HB.out.symm
      rw [hgx]
      have HC6 := Lib.hid (HC5.out.trans (hbr.mono (by have := HC5.out.size; simpa using this)))
      clear hgx hbo hbl ht1 ht4 hgl h2
      have hgxl : gx.length ≤ 64 := HGX.out
      have hzz : ((64 : Int) - (gx.length : Int)).toNat = 64 - gx.length := by omega
      have HZ := Lib.hid hzz
      clear hzz
      go_wp2_with fail
      with_reducible refine (zeros_any _ ?z1 ?z2 _).mono ?_
      case z1 => omega
      case z2 => omega
      rintro e w5 ⟨rfl, hb5⟩
      rw [HZ.out]
      go_wp2_with fail
      go_ret
      refine ⟨?_, (((Below.refl _ w).alloc (Nat.le_refl _) _).trans (HC6.out.mono (by simp))).trans (hb5.mono (by have := HC6.out.size; simp at this; omega))⟩
      rw [HR.out]
      exact congrArg (fun s => Ending.returned (.string s)) (Kit.append_mk gx _)
end Go.Proofs.YtlcdhlfkffkifaaGreatDoor

/-
  The walk through partitionmap.bytes: maps of 64 bytes, one kind.
-/
namespace Go.Proofs.YtlcdhlfkffkifaaGreatDoor
open Go.RowKit

set_option maxHeartbeats 6400000 in
set_option maxRecDepth 100000 in
/-- partitionmap.bytes, one kind. -/
theorem bytes_k3 (x : Pm.M) (tv : Value) (w : World) (hr : Kit.RowS w tv (Kit.izs x.tables)) (hv : Pm.valid x = true) (hk : x.kind = 3) :
    Calls Tryz.prog 28 #[Pm.pmV x tv] w fun e w' => e = .returned (.string ⟨(Pm.bytes x).toArray⟩) ∧ Below w.heap.size w w' := by
  have hn := Pm.valid_number hv
  have hbl := Pm.big_len hv (by omega)
  have hbo := Pm.body_len hv
  have hR : Pm.bytes x = Pm.big x ++ List.replicate (64 - (Pm.big x).length) 0 := by
    unfold Pm.bytes
    rw [if_neg (by omega)]
  have hN : Cs.entR (Pm.nameOf x.kind) [1, 2] = (Cs.entB (Pm.nameOf x.kind) [1, 2], 0) := Cs.entR_ok (Pm.name_id (by omega)) (by decide)
  have hNl := Cs.idR_len (Pm.name_id (k := x.kind) (by omega))
  have hEl := Cs.entB_len (i := Pm.nameOf x.kind) (s := [1, 2]) hNl.2 (by decide)
  have cE := fun W => entity_any ⟨(Pm.nameOf x.kind).toArray⟩ ⟨#[1, 2]⟩ W (by rw [lb_size]; omega) (by decide)
  rw [show ((⟨(Pm.nameOf x.kind).toArray⟩ : ByteArray).data.toList) = Pm.nameOf x.kind by simp, show ((⟨#[1, 2]⟩ : ByteArray).data.toList) = [1, 2] from rfl, hN] at cE
  have hI : (if x.kind = 1 then Pm.nameV else if x.kind = 2 then Pm.nameS else if x.kind = 3 then Pm.nameM else []) = Pm.nameOf x.kind := by rw [hk]; rfl
  have cI := fun (W : World) (b : Nat) (h : SMap W b 3 idD) => id_at x.kind W b h (by rw [hk]; decide)
  rw [hI] at cI
  obtain ⟨h31, h32, h33⟩ := Pm.valid_three hv
  have hB : Pm.big x = [2, 64, 0, 0] ++ Cs.entB (Pm.nameOf x.kind) [1, 2] ++ Pm.leR 1 2 ++ Pm.leR x.number 2 ++ (Pm.leR x.file 4 ++ Pm.leR x.mirror 4 ++ Pm.leR x.bitmap 4 ++ Pm.leR 8 4 ++ Pm.leR 8 2 ++ Pm.leR 1 1) := by
    unfold Pm.big Pm.body
    rw [if_neg (by omega), if_pos hk, Pm.leR_of (n := 1) (k := 2) (by decide) (by decide), Pm.leR_of (n := x.number) hn.1 (by omega), Pm.leR_of (n := x.file) h31.1 (by omega), Pm.leR_of (n := x.mirror) h32.1 (by omega), Pm.leR_of (n := x.bitmap) h33.1 (by omega), Pm.leR_of (n := 8) (k := 4) (by decide) (by decide), Pm.leR_of (n := 8) (k := 2) (by decide) (by decide), Pm.leR_of (n := 1) (k := 1) (by decide) (by decide)]
    rfl
  clear h31 h32 h33
  have HR := Lib.hid hR
  have HB := Lib.hid hB
  have CE := Lib.hid cE
  have CI := Lib.hid cI
  have C1 := Lib.hid (fun W => pLittle_any 1 2 (by unfold Pm.Sz; omega) W)
  have C2 := Lib.hid (fun W => pLittle_any x.number 2 (by unfold Pm.Sz; omega) W)
  have hl1 := Pm.leR_len 1 2
  have hl2 := Pm.leR_len x.number 2
  have C3 := Lib.hid (fun W => pLittle_any x.file 4 (by unfold Pm.Sz; omega) W)
  have hl3 := Pm.leR_len x.file 4
  have C4 := Lib.hid (fun W => pLittle_any x.mirror 4 (by unfold Pm.Sz; omega) W)
  have hl4 := Pm.leR_len x.mirror 4
  have C5 := Lib.hid (fun W => pLittle_any x.bitmap 4 (by unfold Pm.Sz; omega) W)
  have hl5 := Pm.leR_len x.bitmap 4
  have C6 := Lib.hid (fun W => pLittle_any 8 4 (by unfold Pm.Sz; omega) W)
  have hl6 := Pm.leR_len 8 4
  have C7 := Lib.hid (fun W => pLittle_any 8 2 (by unfold Pm.Sz; omega) W)
  have hl7 := Pm.leR_len 8 2
  have C8 := Lib.hid (fun W => pLittle_any 1 1 (by unfold Pm.Sz; omega) W)
  have hl8 := Pm.leR_len 1 1
  clear hR hB cE cI hv hN hI
  have HGX := Lib.hid (show (Pm.big x).length ≤ 64 by omega)
  generalize Pm.bytes x = bx at *
  generalize Pm.big x = gx at *
  generalize Cs.entB (Pm.nameOf x.kind) [1, 2] = eb at *
  generalize Pm.nameOf x.kind = N at *
  unfold Pm.pmV
  obtain ⟨k, n, t, f, m, b⟩ := x
  simp only [] at *
  subst hk
  have HRow := Lib.hid hr
  obtain ⟨⟨A, c, rfl, hlc, hcm, _⟩, _⟩ := hr
  rw [Kit.izs_length] at *
  unfold maxLen at hcm
  clear hn
  clear hlc hcm HRow
  generalize Pm.leR 1 2 = l1 at *
  generalize Pm.leR n 2 = l2 at *
  generalize Pm.leR f 4 = l3 at *
  generalize Pm.leR m 4 = l4 at *
  generalize Pm.leR b 4 = l5 at *
  generalize Pm.leR 8 4 = l6 at *
  generalize Pm.leR 8 2 = l7 at *
  generalize Pm.leR 1 1 = l8 at *
  have hbx : ∀ j u, (#[.int .i64 3, .int .i64 n, .slice A t.length c, .int .i64 f, .int .i64 m, .int .i64 b] : Array Value)[j]? = some u → (w.alloc (.cells #[.int .i64 3, .int .i64 n, .slice A t.length c, .int .i64 f, .int .i64 m, .int .i64 b] 59)).cell? ⟨w.heap.size, j, none⟩ = some u := fun j u hu => by rw [World.cell?_alloc_at _ _ _ _ (by simp)]; simpa using hu
  have HBX := Lib.hid hbx
  clear hbx
  go_enter Tryz.func28, Tryz.ntmps28
  go_wp2_with fail
  go_region_held3 (fun w' => w'.cell? ⟨w.heap.size, 0, none⟩ = some (.int .i64 3)) (first | assumption | exact HBX.out 0 _ rfl) (first | (go_at_call 52; refine (identifiers_any _).mono ?_; rintro e w2 ⟨mb, rfl, hmb, hmap, hb2⟩; have hlk := CI.out _ _ hmap; have hs2 := (hb2.cell (p := ⟨w.heap.size, 0, none⟩) (by simp)).trans (by assumption)) | (go_at_call 51; with_reducible refine (CE.out _).mono ?_; rintro e w3 ⟨rfl, hb3⟩; have hs3 := (hb3.cell (p := ⟨w.heap.size, 0, none⟩) (World.block_lt_of_cell? _ _ hs2)).trans hs2))
  have hc3 : Below (w.heap.size + 1) (w.alloc (.cells #[.int .i64 3, .int .i64 n, .slice A t.length c, .int .i64 f, .int .i64 m, .int .i64 b] 59)) w3 := ((Below.refl _ _).drew).trans ((hb2.mono (by simp)).trans (hb3.mono (by have := hb2.size; simpa using this)))
  have HC := Lib.hid hc3
  have HX3 := Lib.hid (fun j u hu => (hc3.cell (p := ⟨w.heap.size, j, none⟩) (by simp)).trans (HBX.out j u hu))
  have hH3 : w.heap.size < w3.heap.size := by have := hc3.size; simp at this; omega
  clear hc3 hb2 hb3 hs2 hs3 hmap hmb hlk HBX
  have hcell : ∀ x : Later w3.heap.size w3, x.to.cell? ⟨w.heap.size, 1, none⟩ = some (.int .i64 n) := fun x => later_cell x hH3 (HX3.out 1 _ rfl)
  go_wp2_with fail
  refine wp_region_later w3.heap.size (by kernel_rfl) (by kernel_rfl) ?_
  repeat (any_goals (first | go_big_quiet_skip | (go_big_quiet_want; go_big_quiet_op; first | go_big_quiet_on | (apply Exists.intro; refine ⟨fun _ => ?_, ?_⟩; (first | (with_reducible refine Calls.later_of ?_ (C1.out _); simp) | (with_reducible refine Calls.later_of ?_ (C2.out _); simp)); go_big_quiet_on))))
  refine wpQuiet_nil ?_
  intro wq hw'
  obtain ⟨⟨wz, hbq⟩, hw''⟩ := hw'
  subst hw''
  clear hcell
  have HC4 := Lib.hid (HC.out.trans (hbq.mono (by simpa using HC.out.size)))
  have HX4 := Lib.hid (fun j u hu => (hbq.cell (p := ⟨w.heap.size, j, none⟩) hH3).trans (HX3.out j u hu))
  have hH4 : w.heap.size < wq.heap.size := Nat.lt_of_lt_of_le hH3 hbq.size
  clear hbq HX3 HC hH3
  have h0 := HX4.out 0 _ rfl
  go_wp2_with fail
  have hcellf : ∀ x : Later wq.heap.size wq, x.to.cell? ⟨w.heap.size, 3, none⟩ = some (.int .i64 f) := fun x => later_cell x hH4 (HX4.out 3 _ rfl)
  have hcellm : ∀ x : Later wq.heap.size wq, x.to.cell? ⟨w.heap.size, 4, none⟩ = some (.int .i64 m) := fun x => later_cell x hH4 (HX4.out 4 _ rfl)
  have hcellb : ∀ x : Later wq.heap.size wq, x.to.cell? ⟨w.heap.size, 5, none⟩ = some (.int .i64 b) := fun x => later_cell x hH4 (HX4.out 5 _ rfl)
  refine wp_region_later wq.heap.size (by kernel_rfl) (by kernel_rfl) ?_
  repeat (any_goals (first | go_big_quiet_skip | (go_big_quiet_want; go_big_quiet_op; first | go_big_quiet_on | (apply Exists.intro; refine ⟨fun _ => ?_, ?_⟩; (first | (with_reducible refine Calls.later_of ?_ (C3.out _); simp) | (with_reducible refine Calls.later_of ?_ (C4.out _); simp) | (with_reducible refine Calls.later_of ?_ (C5.out _); simp) | (with_reducible refine Calls.later_of ?_ (C6.out _); simp) | (with_reducible refine Calls.later_of ?_ (C7.out _); simp) | (with_reducible refine Calls.later_of ?_ (C8.out _); simp)); go_big_quiet_on))))
  refine wpQuiet_nil ?_
  intro wp hwp'
  obtain ⟨⟨wz2, hbp⟩, hwp''⟩ := hwp'
  subst hwp''
  have HC5 := Lib.hid (HC4.out.trans (hbp.mono (by simpa using HC4.out.size)))
  clear hcellf hcellm hcellb h0 HX4 HC4
  have hz : (64 - (36 + (l1.length : Int) + (l2.length : Int) + ((l3.length : Int) + (l4.length : Int) + (l5.length : Int) + (l6.length : Int) + (l7.length : Int) + (l8.length : Int)))).toNat = 64 - gx.length := by
    have := congrArg List.length HB.out
    simp only [List.length_append, List.length_cons, List.length_nil, hEl] at this
    omega
  have HZ := Lib.hid hz
  have hcat : (⟨#[2, 64, 0, 0]⟩ : ByteArray) ++ ⟨eb.toArray⟩ ++ ⟨l1.toArray⟩ ++ ⟨l2.toArray⟩ ++ ((⟨l3.toArray⟩ : ByteArray) ++ ⟨l4.toArray⟩ ++ ⟨l5.toArray⟩ ++ ⟨l6.toArray⟩ ++ ⟨l7.toArray⟩ ++ ⟨l8.toArray⟩) = ⟨gx.toArray⟩ := by
    rw [HB.out, show (⟨#[2, 64, 0, 0]⟩ : ByteArray) = ⟨([2, 64, 0, 0] : List UInt8).toArray⟩ from rfl]
    simp only [Kit.append_mk]
  have HCAT := Lib.hid hcat
  clear hz hcat hbo hbl
  go_wp2_with fail
  with_reducible refine (zeros_any _ ?z1 ?z2 _).mono ?_
  case z1 => omega
  case z2 => omega
  rintro e w5 ⟨rfl, hb5⟩
  rw [HZ.out]
  go_wp2_with fail
  go_ret
  refine ⟨?_, (((Below.refl _ w).alloc (Nat.le_refl _) _).trans (HC5.out.mono (by simp))).trans (hb5.mono (by have := HC5.out.size; simp at this; omega))⟩
  rw [HR.out]
  exact congrArg (fun s => Ending.returned (.string s)) ((congrArg (· ++ (⟨(List.replicate (64 - gx.length) (0 : UInt8)).toArray⟩ : ByteArray)) HCAT.out).trans (Kit.append_mk gx _))
end Go.Proofs.YtlcdhlfkffkifaaGreatDoor

/-
  The walk through partitionmap.Encode.
-/
namespace Go.Proofs.YtlcdhlfkffkifaaGreatDoor
open Go.RowKit

/-- partitionmap.bytes. -/
theorem bytes_any (x : Pm.M) (tv : Value) (w : World) (hr : Kit.RowS w tv (Kit.izs x.tables)) (hv : Pm.valid x = true) :
    Calls Tryz.prog 28 #[Pm.pmV x tv] w fun e w' => e = .returned (.string ⟨(Pm.bytes x).toArray⟩) ∧ Below w.heap.size w w' := by
  have hk := Pm.valid_kind hv
  have : x.kind = 0 ∨ x.kind = 1 ∨ x.kind = 2 ∨ x.kind = 3 := by omega
  rcases this with h | h | h | h
  · exact bytes_zero x tv w hr hv h
  · exact bytes_k1 x tv w hr hv h
  · exact bytes_k2 x tv w hr hv h
  · exact bytes_k3 x tv w hr hv h

theorem flat_snoc {l : List Pm.M} {j : Nat} (h : j < l.length) : (l.take (j + 1)).flatMap Pm.bytes = (l.take j).flatMap Pm.bytes ++ Pm.bytes (l.getD j Pm.none) := by
  rw [List.take_succ_eq_append_getElem h, List.flatMap_append]
  simp [List.getD, h]
theorem flat_le {l : List Pm.M} (h : l.all Pm.valid = true) : (l.flatMap Pm.bytes).length ≤ 64 * l.length := by
  induction l with
  | nil => simp
  | cons x t ih =>
    simp only [List.all_cons, Bool.and_eq_true] at h
    have h1 := Pm.bytes_len h.1
    have h2 := ih h.2
    rw [List.flatMap_cons, List.length_append, List.length_cons, h1]
    split <;> omega

set_option maxHeartbeats 3200000 in
set_option maxRecDepth 100000 in
/-- partitionmap.Encode. -/
theorem encode_any (v : Value) (l : List Pm.M) (T : Nat → Value) (w : World) (hm : Pm.MapsAt w v l T) (hf : Pm.Few l) :
    Calls Tryz.prog 11 #[v] w fun e w' => e = .returned (.tuple #[.string ⟨(Pm.encR l).1.toArray⟩, .int .i64 (Pm.encR l).2]) ∧ Below w.heap.size w w' := by
  have CA := Lib.hid (fun W h => all_any v l T W h hf)
  have HM := Lib.hid hm
  obtain ⟨A, c, rfl, hlc, hcm, hcells⟩ := hm.row
  have HCE := Lib.hid hcells
  clear hcells hm
  unfold maxLen at hcm
  cases ha : Pm.all l with
  | false =>
    have HR := Lib.hid (show Pm.encR l = ([], 1) by unfold Pm.encR; rw [ha]; rfl)
    rw [ha] at CA
    clear ha hf hlc hcm
    go_enter Tryz.func11, Tryz.ntmps11
    go_wp2_with fail
    with_reducible refine (CA.out _ HM.out).mono ?_
    rintro e w2 ⟨rfl, hb2⟩
    go_wp2_with fail
    go_ret2
    rw [HR.out]
    exact ⟨rfl, hb2⟩
  | true =>
    have HR := Lib.hid (show Pm.encR l = (l.flatMap Pm.bytes, 0) by unfold Pm.encR; rw [ha]; rfl)
    rw [ha] at CA
    unfold Pm.all at ha
    rw [Bool.and_eq_true, decide_eq_true_eq] at ha
    obtain ⟨hl4, hall⟩ := ha
    have HALL := Lib.hid hall
    clear hall hf
    go_enter Tryz.func11, Tryz.ntmps11
    go_wp2_with fail
    with_reducible refine (CA.out _ HM.out).mono ?_
    rintro e w2 ⟨rfl, hb2⟩
    go_wp2_with fail
    go_loopw [4, 6, 12] (fun ov _ iv wr => ∃ j : Nat, j ≤ l.length ∧ iv = .int .i64 j ∧ ov = .string ⟨((l.take j).flatMap Pm.bytes).toArray⟩ ∧ Below w.heap.size w wr) (fun _ _ iv _ => l.length - (intOf iv).toNat)
    case atStart => exact ⟨0, by omega, rfl, rfl, hb2⟩
    case round =>
      obtain ⟨j, hj, rfl, rfl, hbw⟩ := hrel
      by_cases hlt : j < l.length
      · obtain ⟨b, o, rfl, hbl, hc⟩ := HCE.out (by omega)
        obtain ⟨c0, c1, c2, c3, c4, c5⟩ := Pm.six hbl hbw (hc j hlt)
        have hr := (HM.out.tabs j hlt).below hbw
        have hv : Pm.valid (l.getD j Pm.none) = true := List.all_eq_true.1 HALL.out _ (by simp [List.getD, hlt])
        have CB := Lib.hid (fun W h => bytes_any (l.getD j Pm.none) (T j) W h hv)
        have hsn := flat_snoc hlt
        have hle : ((l.take j).flatMap Pm.bytes).length ≤ 256 := by
          have h1 := flat_le (l := l.take j) (by rw [List.all_eq_true]; intro y hy; exact List.all_eq_true.1 HALL.out y (List.mem_of_mem_take hy))
          have h2 : (l.take j).length ≤ 4 := by rw [List.length_take]; omega
          omega
        have hle2 := Pm.bytes_len hv
        have HSN := Lib.hid hsn
        clear hsn hc
        have hle3 : (Pm.bytes (l.getD j Pm.none)).length ≤ 64 := by rw [hle2]; split <;> omega
        clear hle2 hv
        generalize (l.take j).flatMap Pm.bytes = g at *
        generalize l.getD j Pm.none = x at *
        generalize T j = tv at *
        have HRT := Lib.hid hr
        obtain ⟨⟨A', c', rfl, _, _, _⟩, _⟩ := hr
        unfold Pm.pmV at CB
        generalize Pm.bytes x = bx at *
        obtain ⟨k, n, t, f, m, bb⟩ := x
        simp only [] at *
        go_wp2_with fail
        have hba : Below wr.heap.size wr (wr.alloc (.cells #[.int .i64 k, .int .i64 n, .slice A' (Kit.izs t).length c', .int .i64 f, .int .i64 m, .int .i64 bb] 59)) := (Below.refl _ _).alloc (Nat.le_refl _) _
        with_reducible refine (CB.out _ (HRT.out.below hba)).mono ?_
        rintro e w3 ⟨rfl, hb3⟩
        have HB3 := Lib.hid (hbw.trans (hba.mono hbw.size |>.trans (hb3.mono (Nat.le_trans hbw.size hba.size))))
        clear hba hb3
        go_wp2_with fail
        go_roundw
        case rel => exact ⟨j + 1, by omega, by go_num, by rw [HSN.out]; exact congrArg Value.string (Kit.append_mk g bx), HB3.out⟩
        case measure => simp [intOf]; omega
      · obtain rfl : j = l.length := by omega
        rw [List.take_length]
        go_wp2_with fail
        go_ret2
        rw [HR.out]
        exact ⟨rfl, hbw⟩
end Go.Proofs.YtlcdhlfkffkifaaGreatDoor
