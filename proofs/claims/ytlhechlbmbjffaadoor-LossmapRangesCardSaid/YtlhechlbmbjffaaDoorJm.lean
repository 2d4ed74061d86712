/-
  slices.Contains of strings by rows, Damaged.
-/
import Derived.Test.YtlhechlbmbjffaaDoorJc
import Derived.Test.YtlhechlbmbjffaaDoorShelf
namespace Go.Proofs.YtlhechlbmbjffaaDoor
open Go.RowKit
theorem strInfo : (Tryd.prog.info? 9).map (fun i => (i.zero, i.size, i.bytes)) = some (some (.string ⟨#[]⟩), 1, 16) := by kernel_rfl
namespace Lm
theorem box {p : Prop} (h : Hid p) : p := h.out
theorem hasR_iff (l : List ByteArray) (x : ByteArray) : hasR l x = Lib.containsS l x := by
  rw [Bool.eq_iff_iff, Lib.containsS_iff]
  simp [hasR]
theorem one_strs (l : List ByteArray) : ∀ u ∈ strs l, u.oneCell' = true := by
  intro u hu
  obtain ⟨s, _, rfl⟩ := List.mem_map.1 hu
  rfl
theorem strs_append (a b : List ByteArray) : strs (a ++ b) = strs a ++ strs b := by simp [strs]
theorem damR_snoc (l : List L) (x : L) : ∀ out, damR out (l ++ [x]) = if hasR (damR out l) x.path = true then damR out l else damR out l ++ [x.path] := by
  induction l with
  | nil =>
    intro out
    by_cases h : hasR out x.path = true
    · simp only [List.nil_append, damR, if_pos h]
      exact (if_pos h).symm
    · simp only [List.nil_append, damR, if_neg h]
      exact (if_neg h).symm
  | cons y t ih =>
    intro out
    simp only [List.cons_append, damR]
    split
    · exact ih _
    · exact ih _
theorem damR_len (l : List L) : ∀ out, (damR out l).length ≤ out.length + l.length := by
  induction l with
  | nil => intro out; simp [damR]
  | cons y t ih =>
    intro out
    simp only [damR, List.length_cons]
    split
    · have := ih out; omega
    · have := ih (out ++ [y.path]); simp at this; omega
theorem damR_take {l : List L} {j : Nat} (h : j < l.length) : damR [] (l.take (j + 1)) = if hasR (damR [] (l.take j)) (l.getD j l0).path = true then damR [] (l.take j) else damR [] (l.take j) ++ [(l.getD j l0).path] := by
  rw [List.take_succ_eq_append_getElem h, damR_snoc]
  have e : l.getD j l0 = l[j] := by simp [List.getD, h]
  rw [e]
end Lm

set_option maxHeartbeats 800000 in
/-- slices.Contains of strings. -/
theorem containsS_any (v : Value) (l : List ByteArray) (x : ByteArray) (w : World) (hm : Lm.Strs w v l) :
    Calls Tryd.prog 39 #[v, .string x] w fun e w' => e = .returned (.bool (Lm.hasR l x)) ∧ w' = w := by
  rw [Lm.hasR_iff]
  obtain ⟨A, c, rfl, h1, h2, h3⟩ := hm
  rw [Lm.strs_length] at *
  unfold maxLen at h2
  by_cases h : 0 < l.length
  · obtain ⟨b, o, rfl, hb, hc⟩ := h3 h
    have := Tryd.slices_Contains_string b o l.length c l x w (Nat.le_refl _) (by omega) (fun j hj => hc j _ (by simp [Lm.strs, List.getD, hj, ByteArray.empty, ByteArray.emptyWithCapacity]))
    rwa [List.take_length] at this
  · obtain rfl : l = [] := List.eq_nil_of_length_eq_zero (by omega)
    exact Tryd.slices_Contains_string_empty A c x w

set_option maxHeartbeats 3200000 in
set_option maxRecDepth 100000 in
/-- Damaged. -/
theorem damaged_any (v : Value) (l : List Lm.L) (w : World) (hm : Lm.Losses w v l) (hl : l.length ≤ 1048576) :
    Calls Tryd.prog 16 #[v] w fun e w' => ∃ r, e = .returned r ∧ w'.ownsRow w.heap.size 9 1 r (Lm.damR [] l).length (Lm.strs (Lm.damR [] l)) ∧ Below w.heap.size w w' := by
  obtain ⟨i0, hi, hz0, hz1, hz2⟩ := info_parts strInfo
  obtain ⟨A, c, rfl, hlc, hcm, hcells⟩ := hm
  have HCE := Lib.hid hcells
  clear hcells
  unfold maxLen at hcm
  go_enter Tryd.func16, Tryd.ntmps16
  go_wp2_with fail
  go_loopw [3, 5, 8] (fun v _ iv wr => ∃ j : Nat, j ≤ l.length ∧ iv = .int .i64 j ∧ Hid (wr.ownsRow w.heap.size 9 1 v (Lm.damR [] (l.take j)).length (Lm.strs (Lm.damR [] (l.take j)))) ∧ Below w.heap.size w wr) (fun _ _ iv _ => l.length - (intOf iv).toNat)
  case atStart => exact ⟨0, by omega, rfl, Lib.hid (World.ownsRow_nil _ _ _ _), Below.refl _ _⟩
  case round =>
    obtain ⟨j, hj, rfl, HOWN, hbw⟩ := hrel
    by_cases hlt : j < l.length
    · obtain ⟨b, o, rfl, hbl, hc⟩ := HCE.out (by omega)
      have q0 := (hbw.cell (p := ⟨b, o + j * 3 + 0, none⟩) hbl).trans (hc j hlt 0 _ rfl)
      have q1 := (hbw.cell (p := ⟨b, o + j * 3 + 1, none⟩) hbl).trans (hc j hlt 1 _ rfl)
      have q2 := (hbw.cell (p := ⟨b, o + j * 3 + 2, none⟩) hbl).trans (hc j hlt 2 _ rfl)
      simp only [Nat.add_zero] at q0
      have HST := Lib.hid (Lm.damR_take hlt)
      have hdl := Lm.damR_len (l.take j) []
      have htl : (l.take j).length ≤ 1048576 := by rw [List.length_take]; omega
      simp only [List.length_nil] at hdl
      have hq0 := Lm.newCells wr #[.string (l.getD j Lm.l0).path, .int .i64 (l.getD j Lm.l0).off, .int .i64 (l.getD j Lm.l0).len] 35 0 _ rfl
      have hbw' := hbw.alloc hbw.size (.cells #[.string (l.getD j Lm.l0).path, .int .i64 (l.getD j Lm.l0).off, .int .i64 (l.getD j Lm.l0).len] 35)
      have HOWN2 := Lib.hid (HOWN.out.alloc (.cells #[.string (l.getD j Lm.l0).path, .int .i64 (l.getD j Lm.l0).off, .int .i64 (l.getD j Lm.l0).len] 35))
      clear hc
      generalize Lm.damR [] (l.take j) = d at *
      generalize l.getD j Lm.l0 = x at *
      obtain ⟨pa, off, ln⟩ := x
      simp only [Lm.lC] at *
      have HB := Lib.hid hbw'
      have hsz := hbw'.size
      have CH := Lib.hid (containsS_any _ d pa _ (Kit.Row.of_own HOWN2.out))
      clear hbw'
      cases hh : Lm.hasR d pa with
      | true =>
        rw [hh] at CH HST
        clear hh
        go_wp2_with fail
        with_reducible refine CH.out.mono ?_
        rintro e w2 ⟨rfl, rfl⟩
        go_wp2_with fail
        go_roundw
        case rel => exact ⟨j + 1, by omega, by go_num, Lib.hid (by rw [HST.out]; exact HOWN2.out), HB.out⟩
        case measure => simp [intOf]; omega
      | false =>
        rw [hh] at CH HST
        clear hh
        go_wp2_with fail
        with_reducible refine CH.out.mono ?_
        rintro e w2 ⟨rfl, hw2⟩
        rw [← hw2] at hq0 HB HOWN2 hsz
        clear hw2
        go_wp2_with (at_builtin; refine Lm.box ?_)
        refine Lib.hid ?_
        refine Kit.push rfl _ _ 22 rfl w.heap.size 9 i0 (.string ⟨#[]⟩) 16 Tryd.underlying22 hi hz0 hz1 hz2 rfl _ _ _ rfl HOWN2.out (Lm.strs [pa]) 1 1 rfl rfl (Lm.one_strs [pa]) ?c1 ?c2 ?c3 ?_
        case c1 => unfold maxLen; omega
        case c2 => omega
        case c3 => omega
        intro v' w4 hown' hb4
        have HOWN' := Lib.hid hown'
        clear hown'
        go_wp2_with fail
        go_roundw
        case rel => exact ⟨j + 1, by omega, by go_num, Lib.hid (by
          rw [HST.out]
          have h := HOWN'.out
          rw [← Lm.strs_append] at h
          simpa using h), HB.out.trans hb4⟩
        case measure => simp [intOf]; omega
    · obtain rfl : j = l.length := by omega
      rw [List.take_length] at HOWN
      go_wp2_with fail
      go_ret
      exact ⟨_, rfl, HOWN.out, hbw⟩
end Go.Proofs.YtlhechlbmbjffaaDoor
