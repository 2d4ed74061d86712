/-
  Plain laws on entity identifiers, and what Entity and ParseEntity return in the law UdfstringNames.
-/
import Derived.Test.YtfdlnhflgiemiaaDoorN3
namespace Go.Proofs.YtfdlnhflgiemiaaDoor
open Go.RowKit
namespace Cs
theorem trim_more (x : List UInt8) (c : UInt8) (k : Nat) : Lib.trimRightB (x ++ List.replicate k c) c = Lib.trimRightB x c := by
  unfold Lib.trimRightB
  rw [List.reverse_append, List.reverse_replicate]
  congr 1
  induction k with
  | zero => rfl
  | succ k ih =>
    rw [List.replicate_succ, List.cons_append, List.dropWhile_cons, if_pos (by simp)]
    exact ih
theorem while_app (i : List UInt8) (k : Nat) (h : ∀ b ∈ i, b ≠ 0) : ((i ++ List.replicate k 0).takeWhile fun b => b != 0) = i := by
  induction i with
  | nil =>
    cases k with
    | zero => rfl
    | succ k => rfl
  | cons a t ih =>
    rw [List.cons_append, List.takeWhile_cons, if_pos (by simpa using h a (by simp)), ih (fun b hb => h b (by simp [hb]))]
theorem prt_ne {l : List UInt8} (h : idR l = true) : ∀ b ∈ l, b ≠ 0 := by
  intro b hb e
  unfold idR at h
  simp only [Bool.and_eq_true, decide_eq_true_eq] at h
  have := (prt_iff b).1 (List.all_eq_true.1 h.2.2 b hb)
  rw [e] at this
  simp at this

/-- An entity identifier's bytes. -/
def entB (i s : List UInt8) : List UInt8 := 0 :: i ++ List.replicate (23 - i.length) 0 ++ s ++ List.replicate (8 - s.length) 0
theorem entB_len {i s : List UInt8} (h1 : i.length ≤ 23) (h2 : s.length ≤ 8) : (entB i s).length = 32 := by
  unfold entB
  simp only [List.length_append, List.length_cons, List.length_replicate]
  omega
theorem entR_ok {i s : List UInt8} (h1 : idR i = true) (h2 : s.length ≤ 8) : entR i s = (entB i s, 0) := if_pos ⟨h1, h2⟩
theorem pent_of {i s : List UInt8} (h1 : idR i = true) (h2 : s.length ≤ 8) : pentR (entB i s) = ((i, s ++ List.replicate (8 - s.length) 0), 0) := by
  have hl := (idR_len h1).2
  have hlen := entB_len hl h2
  have hL : entL (entB i s) = i ++ List.replicate (23 - i.length) 0 := by
    unfold entL entB
    rw [List.cons_append, List.cons_append, List.cons_append, List.drop_succ_cons, List.drop_zero, List.append_assoc (i ++ _)]
    exact List.take_left' (by simp; omega)
  have hS : entS (entB i s) = i := by
    unfold entS
    rw [hL]
    exact while_app i _ (prt_ne h1)
  have hD : (entB i s).drop 24 = s ++ List.replicate (8 - s.length) 0 := by
    unfold entB
    rw [List.append_assoc (0 :: i ++ _)]
    exact List.drop_left' (by simp; omega)
  have hO : entOk (entB i s) = true := by
    unfold entOk
    rw [hS, hL, h1, List.drop_left]
    simp
  unfold pentR
  rw [if_neg (by omega), if_pos hO, hS, hD]
theorem pent_ok {f : List UInt8} (h : f.length = 32) (hO : entOk f = true) : entR (entS f) (f.drop 24) = (entB (entS f) (f.drop 24), 0) ∧ (entB (entS f) (f.drop 24)).length = 32 ∧ (entB (entS f) (f.drop 24)).drop 1 = f.drop 1 := by
  unfold entOk at hO
  rw [Bool.and_eq_true] at hO
  obtain ⟨h1, h2⟩ := hO
  have hd : (f.drop 24).length = 8 := by rw [List.length_drop]; omega
  have hl := (idR_len h1).2
  refine ⟨entR_ok h1 (by omega), entB_len hl (by omega), ?_⟩
  have hz : (entL f).drop (entS f).length = List.replicate (23 - (entS f).length) 0 := by
    have e : ((entL f).drop (entS f).length).length = 23 - (entS f).length := by rw [List.length_drop, entL_len h]
    rw [← e]
    exact List.eq_replicate_iff.2 ⟨rfl, fun b hb => by simpa using List.all_eq_true.1 h2 b hb⟩
  have hp : entS f ++ (entL f).drop (entS f).length = entL f := by
    have : entS f = (entL f).take (entS f).length := List.prefix_iff_eq_take.1 (List.takeWhile_prefix _)
    conv => lhs; lhs; rw [this]
    exact List.take_append_drop _ _
  unfold entB
  rw [List.cons_append, List.cons_append, List.cons_append, List.drop_succ_cons, List.drop_zero, ← hz, hp, hd]
  have hf : f.drop 1 = entL f ++ f.drop 24 := by
    unfold entL
    have := (List.take_append_drop 23 (f.drop 1)).symm
    rw [List.drop_drop] at this
    exact this
  rw [hf]
  simp
end Cs

theorem ways_one (i s : ByteArray) (hi : i.size ≤ 60) (hs : s.size ≤ 60) :
    (∀ W, Calls Tryd.prog 24 #[.string i, .string s] W fun e w' => e = .returned (.tuple #[.string ⟨#[]⟩, .int .i64 1]) ∧ Below W.heap.size W w') ∨
    (∃ (E b : ByteArray) (y : List UInt8), E.size = 32 ∧ b.size = 8 ∧
      (∀ W, Calls Tryd.prog 24 #[.string i, .string s] W fun e w' => e = .returned (.tuple #[.string E, .int .i64 0]) ∧ Below W.heap.size W w') ∧
      (∀ W m, W.cell? ⟨2, 0, none⟩ = some (.int .i64 m) → Calls Tryd.prog 26 #[.string E] W fun e w' => e = .returned (.tuple #[.string i, .string b, .int .i64 0]) ∧ Below W.heap.size W w') ∧
      (∀ W, Calls Tryd.prog 30 #[.string b, .string ⟨#[0]⟩] W fun e w' => e = .returned (.string ⟨y.toArray⟩) ∧ w' = W) ∧
      (∀ W, Calls Tryd.prog 30 #[.string s, .string ⟨#[0]⟩] W fun e w' => e = .returned (.string ⟨y.toArray⟩) ∧ w' = W) ∧
      (∀ W, Calls Tryd.prog 21 #[.string b, .string s] W fun e w' => e = .returned (.bool true) ∧ w' = W)) := by
  have hds := Kit.len_size s
  by_cases h : Cs.idR i.data.toList = true ∧ s.data.toList.length ≤ 8
  case neg =>
    left
    intro W
    have := entity_any i s W (by omega) (by omega)
    rw [show Cs.entR i.data.toList s.data.toList = ([], 1) from if_neg h] at this
    exact this
  case pos =>
  obtain ⟨h1, h2⟩ := h
  have hl := (Cs.idR_len h1).2
  right
  refine ⟨⟨(Cs.entB i.data.toList s.data.toList).toArray⟩, ⟨(s.data.toList ++ List.replicate (8 - s.data.toList.length) 0).toArray⟩, Lib.trimRightB s.data.toList 0, by rw [lb_size]; exact Cs.entB_len hl h2, by rw [lb_size]; simp; omega, fun W => ?_, fun W m hm => ?_, fun W => ?_, fun W => ?_, fun W => ?_⟩
  · have := entity_any i s W (by omega) (by omega)
    rw [Cs.entR_ok h1 h2] at this
    exact this
  · have := pent_any ⟨(Cs.entB i.data.toList s.data.toList).toArray⟩ W m hm (by rw [lb_size, Cs.entB_len hl h2]; omega)
    rw [show (⟨(Cs.entB i.data.toList s.data.toList).toArray⟩ : ByteArray).data.toList = Cs.entB i.data.toList s.data.toList from rfl, Cs.pent_of h1 h2] at this
    simp only at this
    rw [← Kit.eta i] at this
    exact this
  · have := Tryd.strings_TrimRight_one ⟨(s.data.toList ++ List.replicate (8 - s.data.toList.length) 0).toArray⟩ 0 (by decide) W (by rw [lb_size]; simp; omega)
    rw [show (⟨(s.data.toList ++ List.replicate (8 - s.data.toList.length) (0 : UInt8)).toArray⟩ : ByteArray).data.toList = s.data.toList ++ List.replicate (8 - s.data.toList.length) 0 from rfl, Cs.trim_more] at this
    exact this
  · exact Tryd.strings_TrimRight_one s 0 (by decide) W (by omega)
  · have := Tryd.strings_HasPrefix ⟨(s.data.toList ++ List.replicate (8 - s.data.toList.length) 0).toArray⟩ s W
    rw [show Lib.hasPrefix (⟨(s.data.toList ++ List.replicate (8 - s.data.toList.length) (0 : UInt8)).toArray⟩ : ByteArray).data.toList s.data.toList = true by simp [Lib.hasPrefix]] at this
    exact this

theorem ways_two (f : ByteArray) (hf : f.size ≤ 60) :
    (∃ er : Int, er ≠ 0 ∧ ∀ W m, W.cell? ⟨2, 0, none⟩ = some (.int .i64 m) → Calls Tryd.prog 26 #[.string f] W fun e w' => e = .returned (.tuple #[.string ⟨#[]⟩, .string ⟨#[]⟩, .int .i64 er]) ∧ Below W.heap.size W w') ∨
    (∃ a b E : ByteArray, E.size = f.size ∧ 1 ≤ f.size ∧ ((E.extract 1 f.size).toList == (f.extract 1 f.size).toList) = true ∧
      (∀ W m, W.cell? ⟨2, 0, none⟩ = some (.int .i64 m) → Calls Tryd.prog 26 #[.string f] W fun e w' => e = .returned (.tuple #[.string a, .string b, .int .i64 0]) ∧ Below W.heap.size W w') ∧
      (∀ W, Calls Tryd.prog 24 #[.string a, .string b] W fun e w' => e = .returned (.tuple #[.string E, .int .i64 0]) ∧ Below W.heap.size W w')) := by
  have hdl := Kit.len_size f
  by_cases h32 : f.data.toList.length = 32
  case neg =>
    left
    refine ⟨1, by decide, fun W m hm => ?_⟩
    have := pent_any f W m hm (by omega)
    rw [show Cs.pentR f.data.toList = (([], []), 1) from if_pos h32] at this
    exact this
  case pos =>
  by_cases hO : Cs.entOk f.data.toList = true
  case neg =>
    left
    refine ⟨10, by decide, fun W m hm => ?_⟩
    have := pent_any f W m hm (by omega)
    rw [show Cs.pentR f.data.toList = (([], []), 10) by unfold Cs.pentR; rw [if_neg (by omega), if_neg hO]] at this
    exact this
  case pos =>
  right
  obtain ⟨k1, k2, k3⟩ := Cs.pent_ok h32 hO
  have hsl := Cs.entS_len h32
  refine ⟨⟨(Cs.entS f.data.toList).toArray⟩, ⟨(f.data.toList.drop 24).toArray⟩, ⟨(Cs.entB (Cs.entS f.data.toList) (f.data.toList.drop 24)).toArray⟩, by rw [lb_size, k2]; omega, by omega, ?_, fun W m hm => ?_, fun W => ?_⟩
  · generalize hE : (⟨(Cs.entB (Cs.entS f.data.toList) (f.data.toList.drop 24)).toArray⟩ : ByteArray) = E
    have hEl : E.data.toList = Cs.entB (Cs.entS f.data.toList) (f.data.toList.drop 24) := by rw [← hE]
    have hEs : E.size = f.size := by rw [← hE, lb_size, k2]; omega
    have e1 : (E.extract 1 f.size).data.toList = f.data.toList.drop 1 := by
      rw [← hEs, Lib.extract_to_end, hEl, k3]
    have e2 : (f.extract 1 f.size).data.toList = f.data.toList.drop 1 := Lib.extract_to_end f 1
    rw [Lib.toList_data, Lib.toList_data, e1, e2]
    simp
  · have := pent_any f W m hm (by omega)
    rw [show Cs.pentR f.data.toList = ((Cs.entS f.data.toList, f.data.toList.drop 24), 0) by unfold Cs.pentR; rw [if_neg (by omega), if_pos hO]] at this
    exact this
  · have := entity_any ⟨(Cs.entS f.data.toList).toArray⟩ ⟨(f.data.toList.drop 24).toArray⟩ W (by rw [lb_size]; omega) (by rw [lb_size, List.length_drop]; omega)
    rw [show (⟨(Cs.entS f.data.toList).toArray⟩ : ByteArray).data.toList = Cs.entS f.data.toList from rfl, show (⟨(f.data.toList.drop 24).toArray⟩ : ByteArray).data.toList = f.data.toList.drop 24 from rfl, k1] at this
    exact this
end Go.Proofs.YtfdlnhflgiemiaaDoor
