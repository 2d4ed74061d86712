/-
  The example's partition maps: decode and Kind.
-/
import Derived.Test.YtiekfipjbmdkpaaGreatDoorHc
import Derived.Test.YtiekfipjbmdkpaaGreatDoorHe
noncomputable section
namespace Go.Proofs.YtiekfipjbmdkpaaGreatDoor
open Go.RowKit
namespace Sx
open Go.Sx
set_option maxRecDepth 100000
/-- The value of a value without names that is no aggregate. -/
def scalV : AV → Option Value
  | .bool b => some (.bool b)
  | .int k n => some (.int k n)
  | .nilsl => some (.slice none 0 0)
  | _ => none
theorem scalV_spec {E : Env} {nx : Nat} {v : AV} {x u : Value} (h : VR E nx v x) (hs : scalV v = some u) : x = u := by
  cases v <;> simp only [scalV, Option.some.injEq, reduceCtorEq] at hs <;> (subst hs; simpa [VR] using h)
def scalVs : List AV → List Value → Bool
  | _, [] => true
  | l, u :: us => (match l with
    | v :: l' => (match scalV v, u with
      | some (.int .i64 a), .int .i64 b => (match eqI a b with | true => scalVs l' us | false => false)
      | some (.slice none 0 0), .slice none 0 0 => scalVs l' us
      | _, _ => false)
    | [] => false)
theorem scalVs_spec : ∀ {us : List Value} {l : List AV}, scalVs l us = true → ∀ (t : Nat) (u : Value), us[t]? = some u → ∃ v, nth l t = some v ∧ scalV v = some u
  | [], l, _, t, u, h => by simp at h
  | u0 :: us, l, hl, t, u, h => by
    unfold scalVs at hl
    split at hl
    · rename_i v l'
      have step : scalV v = some u0 ∧ scalVs l' us = true := by
        split at hl
        · rename_i a b hv
          split at hl
          · rename_i he
            rw [eqI_to _ _ he] at hv
            exact ⟨hv, hl⟩
          · cases hl
        · rename_i hv
          exact ⟨hv, hl⟩
        · cases hl
      cases t with
      | zero => simp only [List.getElem?_cons_zero, Option.some.injEq] at h; subst h; exact ⟨v, rfl, step.1⟩
      | succ t => simp only [List.getElem?_cons_succ] at h; exact scalVs_spec step.2 t u h
    · cases hl
/-- The example's maps. -/
def exMaps : List Pm.M := [⟨0, 0, [], 0, 0, 0⟩, ⟨1, 0, [], 0, 0, 0⟩]
def exCells : List Value := [.int .i64 0, .int .i64 0, .slice none 0 0, .int .i64 0, .int .i64 0, .int .i64 0, .int .i64 1, .int .i64 0, .slice none 0 0, .int .i64 0, .int .i64 0, .int .i64 0]
theorem exMaps_kind : Pm.kindR exMaps = 1 := by decide
theorem kind_true (c : Cut) (hf : c.f = 62) (hout : c.out = []) (hlog : c.log = []) (hnx : c.nx' = c.nx) (hv : c.v = .int .i64 1) {i e fz j : Nat} {cs : List AV} {mk : Bool} (ha : c.args = [.slice i 0 2 (.u j)]) (hm : (ofM c.m).get i = some (.row e cs fz mk)) (hs : scalVs cs exCells = true) : c.True Tryz.prog := by
  refine Cut.true_plain hout hlog hnx fun E w xs hr hx => ?_
  rw [hf, hv]
  rw [ha] at hx
  simp only [VRs] at hx
  obtain ⟨x, _, hx, rfl, rfl⟩ := hx
  obtain ⟨b, p, cap, rfl, k1, k2, k3⟩ := slice_row hr hm hx (fun n hn => by cases hn)
  refine runs' Tryz.func62 (by kernel_rfl) (by kernel_rfl) _ _ _ ?_
  have cells : ∀ (t : Nat) (u : Value), exCells[t]? = some u → w.cell? ⟨b, p + t, none⟩ = some u := fun t u hu => by
    obtain ⟨v, h1, h2⟩ := scalVs_spec hs t u hu
    obtain ⟨y, h3, h4⟩ := k3 t v (by rw [Nat.zero_add]; exact h1)
    rw [h3, scalV_spec h4 h2]
  have hM : Pm.MapsAt w (.slice (some ⟨b, p, none⟩) 2 cap) exMaps (fun _ => .slice none 0 0) := by
    refine ⟨⟨_, cap, rfl, k1, by unfold maxLen; decide, fun _ => ⟨b, p, rfl, k2, fun j hj k u hu => ?_⟩⟩, fun j hj => ?_, fun j hj => ?_⟩
    · have hk : k < 6 := (List.getElem?_eq_some_iff.1 hu).1
      have hj2 : j = 0 ∨ j = 1 := by have : j < 2 := hj; omega
      rw [Nat.add_assoc]
      refine cells _ _ ?_
      have h6 : k = 0 ∨ k = 1 ∨ k = 2 ∨ k = 3 ∨ k = 4 ∨ k = 5 := by omega
      rcases hj2 with rfl | rfl <;> rcases h6 with rfl | rfl | rfl | rfl | rfl | rfl <;> exact hu
    · have hj2 : j = 0 ∨ j = 1 := by have : j < 2 := hj; omega
      rcases hj2 with rfl | rfl <;> exact Kit.RowS.nil w
    · have hj2 : j = 0 ∨ j = 1 := by have : j < 2 := hj; omega
      rcases hj2 with rfl | rfl <;> exact ⟨by decide, by decide, by decide, by decide, by decide⟩
  refine (kind_any _ _ _ w hM ⟨by decide, fun j hj => ?_⟩).mono ?_
  · have hj2 : j = 0 ∨ j = 1 := by have : j < 2 := hj; omega
    rcases hj2 with rfl | rfl <;> decide
  · rintro e w' ⟨rfl, hb⟩
    rw [exMaps_kind]
    exact ⟨hb, by simp [VR]⟩

-- ------------------------------------------------------------------ the map of the virtual partition
def vName : Nat := 0x6e6f69746974726150206c617574726956204644552a
def vEnt : Nat := 0x201006e6f69746974726150206c617574726956204644552a00
theorem pent_ex (W : World) : Calls Tryz.prog 257 #[.string (strB (32, vEnt))] W fun e w' => e = .returned (.tuple #[.string (strB (22, vName)), .string (strB (8, 513)), .int .i64 0]) ∧ Below W.heap.size W w' := by
  refine (plain_calls (n := 1000) (args := [.str 32 vEnt]) (v := .tup [.str 22 vName, .str 8 513, .int .i64 (.ofNat 0)]) (xs := [.string (strB (32, vEnt))]) Tryz.func257 (by kernel_rfl) (by kernel_rfl) rfl (by kernel_rfl) (by simp [VRs, VR, strV, strB]) W).mono ?_
  rintro e w' ⟨x, rfl, hb, hx⟩
  simp only [VR, VRs, strV] at hx
  obtain ⟨_, ⟨_, _, rfl, ⟨_, _, rfl, ⟨_, _, rfl, rfl, rfl⟩, rfl⟩, rfl⟩, rfl⟩ := hx
  exact ⟨rfl, hb⟩
theorem dec_true (c : Cut) (hf : c.f = 140) (hout : c.out = []) (hlog : c.log = []) (hnx : c.nx' = c.nx) (hv : c.v = .tup [.agg [.int .i64 1, .int .i64 0, .nilsl, .int .i64 0, .int .i64 0, .int .i64 0], .int .i64 64, .int .i64 0]) {n : Nat} (ha : c.args = [.str 64 n])
    (h1 : ((bytesL 64 n).drop 4).take 32 = bytesL 32 vEnt) (h2 : Cs.byt (bytesL 64 n) 0 = 2) (h3 : Cs.byt (bytesL 64 n) 1 = 64) (h4 : Pm.at_ (bytesL 64 n) 38 2 = 0) : c.True Tryz.prog := by
  refine Cut.true_plain hout hlog hnx fun E w xs hr hx => ?_
  rw [hf, hv]
  rw [ha] at hx
  simp only [VRs, VR, strV] at hx
  obtain ⟨_, _, rfl, rfl, rfl⟩ := hx
  refine runs' Tryz.func140 (by kernel_rfl) (by kernel_rfl) _ _ _ ?_
  have hd : (⟨(bytesL 64 n).toArray⟩ : ByteArray).data.toList = bytesL 64 n := rfl
  have hsz : (⟨(bytesL 64 n).toArray⟩ : ByteArray).size = 64 := by simp [ByteArray.size, bytesL_length]
  have hex : (⟨(bytesL 64 n).toArray⟩ : ByteArray).extract 4 36 = strB (32, vEnt) := by
    have : ((⟨(bytesL 64 n).toArray⟩ : ByteArray).extract 4 36).data.toList = (strB (32, vEnt)).data.toList := by
      rw [Lib.extract_data, hd, h1]
      rfl
    cases hq : (⟨(bytesL 64 n).toArray⟩ : ByteArray).extract 4 36 with
    | mk d =>
      rw [hq] at this
      unfold strB at this ⊢
      congr 1
      exact Array.toList_inj.1 this
  refine (decode_two_1 ⟨(bytesL 64 n).toArray⟩ w (bytesL 22 vName) (bytesL 8 513) (fun W => by rw [hex]; exact pent_ex W) (by rw [hsz]; decide) (by rw [hd, h3, hsz]; decide) (by rw [hd]; exact h2) (by rw [hd]; exact h3) (Lib.hid (by decide)) (by rw [hsz]; decide)).mono ?_
  rintro e w' ⟨rfl, hb⟩
  refine ⟨hb, ?_⟩
  rw [hd, h4]
  simp [VR, VRs, Pm.pmV]
end Sx
end Go.Proofs.YtiekfipjbmdkpaaGreatDoor
end
