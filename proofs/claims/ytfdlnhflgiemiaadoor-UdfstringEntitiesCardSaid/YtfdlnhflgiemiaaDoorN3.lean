/-
  The walk through udfstring.ParseEntity.
-/
import Derived.Test.YtfdlnhflgiemiaaDoorN2
import Derived.Test.YtfdlnhflgiemiaaDoorL3
import Derived.Lib.IndexMore
namespace Go.Proofs.YtfdlnhflgiemiaaDoor
open Go.RowKit
namespace Cs
/-- Where the identifier stands, and the identifier. -/
def entL (f : List UInt8) : List UInt8 := (f.drop 1).take 23
def entS (f : List UInt8) : List UInt8 := (entL f).takeWhile fun b => b != 0
/-- Is it an entity identifier behind its length? -/
def entOk (f : List UInt8) : Bool := idR (entS f) && ((entL f).drop (entS f).length).all fun b => b == 0
/-- What ParseEntity returns. -/
def pentR (f : List UInt8) : (List UInt8 × List UInt8) × Int :=
  if ¬ f.length = 32 then (([], []), 1) else if entOk f = true then ((entS f, f.drop 24), 0) else (([], []), 10)

theorem cut_while (l : List UInt8) : (Lib.cut l [0]).1 = l.takeWhile fun b => b != 0 := by
  induction l with
  | nil => rfl
  | cons b l ih =>
    by_cases hb : b = 0
    · subst hb
      rfl
    · have hp : ([0] : List UInt8).isPrefixOf (b :: l) = false := by
        simp [List.isPrefixOf]
        exact fun h => hb h.symm
      have hge := Lib.index_ge l [0]
      have hidx : Lib.index (b :: l) [0] = if (Lib.index l [0] == -1) = true then -1 else Lib.index l [0] + 1 := by
        show (if ([0] : List UInt8).isPrefixOf (b :: l) = true then 0 else if (Lib.index l [0] == -1) = true then -1 else Lib.index l [0] + 1) = _
        rw [hp]
        rfl
      have htw : (b :: l).takeWhile (fun b => b != 0) = b :: l.takeWhile (fun b => b != 0) := by
        rw [List.takeWhile_cons, if_pos (by simpa using hb)]
      unfold Lib.cut at ih ⊢
      rw [htw, ← ih, hidx]
      clear ih hidx htw
      generalize Lib.index l [0] = x at *
      by_cases h1 : x = -1
      · subst h1
        simp
      · have h2 : (x == -1) = false := by rw [beq_eq_false_iff_ne]; exact h1
        rw [h2]
        simp only [Bool.false_eq_true, if_false]
        rw [if_pos (show (0 : Int) ≤ x + 1 by omega), if_pos (show (0 : Int) ≤ x by omega)]
        rw [show (x + 1).toNat = x.toNat + 1 by omega]
        rfl

theorem dw_nil {p : UInt8 → Bool} (l : List UInt8) : l.dropWhile p = [] ↔ ∀ x ∈ l, p x = true := by
  induction l with
  | nil => simp
  | cons a t ih =>
    by_cases h : p a = true
    · rw [List.dropWhile_cons, if_pos h, ih]
      simp [h]
    · rw [List.dropWhile_cons, if_neg h]
      simp [h]
theorem trimB_nil (x : List UInt8) (c : UInt8) : Lib.trimB x c = [] ↔ (x.all fun b => b == c) = true := by
  unfold Lib.trimB Lib.trimLeftB Lib.trimRightB
  rw [dw_nil]
  constructor
  · intro h
    have hn : x.reverse.dropWhile (· == c) = [] := by
      cases hd : x.reverse.dropWhile (· == c) with
      | nil => rfl
      | cons a t =>
        have h1 := h a (by rw [hd]; simp)
        have h2 := List.head_dropWhile_not (p := (· == c)) (l := x.reverse) (by rw [hd]; simp)
        simp only [hd, List.head_cons] at h2
        rw [h1] at h2
        cases h2
    rw [dw_nil] at hn
    rw [List.all_eq_true]
    intro b hb
    exact hn b (by simpa using hb)
  · intro h b hb
    rw [List.all_eq_true] at h
    have hb' : b ∈ x.reverse.dropWhile (· == c) := by simpa using hb
    exact h b (by simpa using (List.dropWhile_sublist _).subset hb')
theorem entL_len {f : List UInt8} (h : f.length = 32) : (entL f).length = 23 := by
  unfold entL
  rw [List.length_take, List.length_drop]
  omega
theorem entS_len {f : List UInt8} (h : f.length = 32) : (entS f).length ≤ 23 := by
  rw [← entL_len h]
  unfold entS
  exact (List.takeWhile_sublist _).length_le
end Cs

set_option maxHeartbeats 3200000 in
set_option maxRecDepth 100000 in
/-- udfstring.ParseEntity. -/
theorem pent_any (f : ByteArray) (w : World) (m : Int) (hM : w.cell? ⟨2, 0, none⟩ = some (.int .i64 m)) (_hs : f.size ≤ 9223372036854775807) :
    Calls Tryd.prog 26 #[.string f] w fun e w' => e = .returned (.tuple #[.string ⟨(Cs.pentR f.data.toList).1.1.toArray⟩, .string ⟨(Cs.pentR f.data.toList).1.2.toArray⟩, .int .i64 (Cs.pentR f.data.toList).2]) ∧ Below w.heap.size w w' := by
  have hdl := Kit.len_size f
  by_cases h32 : f.size = 32
  case neg =>
    have HR := Lib.hid (show Cs.pentR f.data.toList = (([], []), 1) from if_pos (by rw [hdl]; exact h32))
    have h32' : ((f.size : Int) != 32) = true := by rw [bne_iff_ne]; omega
    clear hdl h32
    go_enter Tryd.func26, Tryd.ntmps26
    go_wp2_with fail
    go_returns
    rw [HR.out]
    exact ⟨rfl, Below.refl _ _⟩
  case pos =>
  have h32l : f.data.toList.length = 32 := by omega
  have hR : Cs.pentR f.data.toList = if Cs.entOk f.data.toList = true then ((Cs.entS f.data.toList, f.data.toList.drop 24), 0) else (([], []), 10) := if_neg (by omega)
  have hsl := Cs.entS_len h32l
  have e1 : (f.extract 1 24).data.toList = Cs.entL f.data.toList := by rw [Lib.extract_data]; rfl
  have cC := fun W hm => Tryd.strings_Cut (f.extract 1 24) ⟨#[0]⟩ m W (by simp <;> omega) hm
  have ecut : (Lib.cut (f.extract 1 24).data.toList (⟨#[0]⟩ : ByteArray).data.toList).1 = Cs.entS f.data.toList := by rw [e1]; exact Cs.cut_while _
  simp only [ecut] at cC
  generalize (Lib.cut (f.extract 1 24).data.toList (⟨#[0]⟩ : ByteArray).data.toList).2.1 = q1 at cC
  generalize (Lib.cut (f.extract 1 24).data.toList (⟨#[0]⟩ : ByteArray).data.toList).2.2 = q2 at cC
  have hx : (f.extract (1 + (Cs.entS f.data.toList).length) 24).data.toList = (Cs.entL f.data.toList).drop (Cs.entS f.data.toList).length := by
    rw [Lib.extract_data]
    unfold Cs.entL
    rw [List.drop_take, List.drop_drop]
    congr 1
    omega
  have cT := fun W => Tryd.strings_Trim_one (f.extract (1 + (Cs.entS f.data.toList).length) 24) 0 (by decide) W (by simp <;> omega)
  rw [hx] at cT
  have hall := Cs.trimB_nil ((Cs.entL f.data.toList).drop (Cs.entS f.data.toList).length) 0
  have hok : Cs.entOk f.data.toList = (Cs.idR (Cs.entS f.data.toList) && ((Cs.entL f.data.toList).drop (Cs.entS f.data.toList).length).all fun b => b == 0) := rfl
  have cP := fun W => printable_any ⟨(Cs.entS f.data.toList).toArray⟩ W (by rw [lb_size]; omega)
  have hd24 : (f.extract 24 f.size).data.toList = f.data.toList.drop 24 := Lib.extract_to_end f 24
  have h32' : ((f.size : Int) != 32) = false := by rw [bne_eq_false_iff_eq]; omega
  have hz : (32 : Int) ≤ (f.size : Int) := by omega
  have H24 := Lib.hid (show f.extract 24 f.size = ⟨(f.data.toList.drop 24).toArray⟩ by rw [← hd24])
  generalize f.data.toList.drop 24 = d24 at *
  generalize ((Cs.entL f.data.toList).drop (Cs.entS f.data.toList).length).all (fun b => b == 0) = al at *
  generalize Lib.trimB ((Cs.entL f.data.toList).drop (Cs.entS f.data.toList).length) 0 = tb at *
  generalize Cs.entS f.data.toList = sl at *
  generalize Cs.idR sl = ir at *
  have hM2 : 2 < w.heap.size := World.block_lt_of_cell? _ _ hM
  have CC := Lib.hid (cC w hM); have CT := Lib.hid cT
  have hn1 : (1 + (sl.length : Int)).toNat = 1 + sl.length := by omega
  have hn2 : (1 + (sl.length : Int)) ≤ 24 := by omega
  clear cC cT e1 ecut hx hdl hd24 h32l hM
  cases ir with
  | false =>
    rw [hok] at hR
    have HR := Lib.hid (hR.trans (if_neg (by simp)))
    have CP := Lib.hid cP
    clear hR hok cP hall
    go_enter Tryd.func26, Tryd.ntmps26
    go_wp2_with fail
    with_reducible refine CC.out.mono ?_
    rintro e w2 ⟨rfl, n2, rfl⟩
    have hb2 := Kit.below_drewN (B := w.heap.size) (w := w) n2
    generalize w.drewN n2 = w2 at hb2 ⊢
    go_wp2_with fail
    with_reducible refine (CP.out _).mono ?_
    rintro e w3 ⟨rfl, hb3⟩
    have hc3 := hb2.trans (hb3.mono hb2.size)
    go_wp2_with fail
    go_returns
    rw [HR.out]
    exact ⟨rfl, hc3⟩
  | true =>
    have CP := Lib.hid cP
    clear cP
    by_cases hal : al = true
    · subst hal
      rw [hok] at hR
      have HR := Lib.hid (hR.trans (if_pos rfl))
      have htb : tb = [] := hall.2 rfl
      subst htb
      clear hR hok hall
      go_enter Tryd.func26, Tryd.ntmps26
      go_wp2_with fail
      with_reducible refine CC.out.mono ?_
      rintro e w2 ⟨rfl, n2, rfl⟩
      have hb2 := Kit.below_drewN (B := w.heap.size) (w := w) n2
      generalize w.drewN n2 = w2 at hb2 ⊢
      go_wp2_with fail
      with_reducible refine (CP.out _).mono ?_
      rintro e w3 ⟨rfl, hb3⟩
      have hc3 := hb2.trans (hb3.mono hb2.size)
      go_wp2_with fail
      with_reducible refine (CT.out _).mono ?_
      rintro e w4 ⟨rfl, hw4⟩
      have hc4 : Below w.heap.size w w4 := by
        rcases hw4 with rfl | rfl
        · exact hc3
        · exact hc3.drew
      clear hw4
      go_wp2_with fail
      go_quiet (fail)
      have hc5 := Kit.Below.drewN hc4 nq
      generalize w4.drewN nq = wq at hc5 ⊢
      go_wp2_with fail
      go_returns
      rw [HR.out]
      refine ⟨?_, hc5⟩
      simp
      rw [← h32]
      exact H24.out
    · have hal' : al = false := by simpa using hal
      subst hal'
      rw [hok] at hR
      have HR := Lib.hid (hR.trans (if_neg (by simp)))
      have htb : tb ≠ [] := fun h => by have := hall.1 h; cases this
      clear hR hok hall hal
      go_enter Tryd.func26, Tryd.ntmps26
      go_wp2_with fail
      with_reducible refine CC.out.mono ?_
      rintro e w2 ⟨rfl, n2, rfl⟩
      have hb2 := Kit.below_drewN (B := w.heap.size) (w := w) n2
      generalize w.drewN n2 = w2 at hb2 ⊢
      go_wp2_with fail
      with_reducible refine (CP.out _).mono ?_
      rintro e w3 ⟨rfl, hb3⟩
      have hc3 := hb2.trans (hb3.mono hb2.size)
      go_wp2_with fail
      with_reducible refine (CT.out _).mono ?_
      rintro e w4 ⟨rfl, hw4⟩
      have hc4 : Below w.heap.size w w4 := by
        rcases hw4 with rfl | rfl
        · exact hc3
        · exact hc3.drew
      clear hw4
      cases tb with
      | nil => exact absurd rfl htb
      | cons tb0 tb1 =>
      go_wp2_with fail
      go_returns
      rw [HR.out]
      exact ⟨rfl, hc4⟩
end Go.Proofs.YtfdlnhflgiemiaaDoor
