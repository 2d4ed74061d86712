/-
  lossmap.Combine.
-/
import Derived.Test.YtlhechlbmbjffaaDoorJt
namespace Go.Proofs.YtlhechlbmbjffaaDoor
open Go.RowKit
namespace Lm
/-- A row of strings of the call's own. -/
abbrev OwnB (w : World) (base : Nat) (v : Value) (l : List ByteArray) : Prop := w.ownsRow base 9 1 v l.length (strs l)
theorem OwnB.shape {w : World} {base : Nat} {v : Value} {l : List ByteArray} (h : OwnB w base v l) : ∃ A c, v = .slice A l.length c ∧ (0 < l.length → ∃ g, A = some ⟨g, 0, none⟩ ∧ base ≤ g) := by
  rcases h.2 with ⟨rfl, h0⟩ | ⟨g, cap, cur, rfl, hb, _⟩
  · exact ⟨none, 0, by rw [h0], by omega⟩
  · exact ⟨_, _, rfl, fun _ => ⟨g, rfl, hb⟩⟩
theorem OwnB.cell {w : World} {base g c : Nat} {l : List ByteArray} (h : OwnB w base (.slice (some ⟨g, 0, none⟩) l.length c) l) {j : Nat} (hj : j < l.length) : w.cell? ⟨g, j, none⟩ = some (.string (l.getD j ⟨#[]⟩)) := by
  have := h.cells (g := g) rfl j (.string (l.getD j ⟨#[]⟩)) (by simp [strs, List.getD, hj])
  rw [Addr.add_lit] at this
  simpa using this
theorem OwnB.put {w : World} {base g c : Nat} {l : List ByteArray} (h : OwnB w base (.slice (some ⟨g, 0, none⟩) l.length c) l) (j : Nat) (b : ByteArray) :
    OwnB (w.setCell ⟨g, j, none⟩ (.string b)) base (.slice (some ⟨g, 0, none⟩) l.length c) (l.set j b) := by
  have h1 := (h.stored j (.string b)).1
  have e : (strs l).set j (.string b) = strs (l.set j b) := by simp [strs, List.map_set]
  rw [e] at h1
  show World.ownsRow _ base 9 1 _ (l.set j b).length (strs (l.set j b))
  rw [List.length_set]
  exact h1
end Lm

set_option maxHeartbeats 12800000 in
set_option maxRecDepth 100000 in
/-- Combine. -/
theorem combine_any (v : Value) (vs : List Value) (ims : List (List ByteArray)) (w : World) (hm : Lm.Imgs w v vs ims) :
    Calls Tryd.prog 19 #[v] w fun e w' => ∃ r, e = .returned (.tuple #[r, .int .i64 (Lm.combE ims)]) ∧ Lm.OwnB w' w.heap.size r (if Lm.combE ims = 0 then Lm.combR ims else []) ∧ Below w.heap.size w w' := by
  have HM := Lib.hid hm
  have CB := Lib.hid (containsB_any v vs ims w hm)
  have HE := Lib.hid (show Lm.combE ims = if ims.all Lm.validI = false then 1 else if 16 < ims.length then 7 else 0 from rfl)
  obtain ⟨A, c, rfl, hlc, hcm⟩ := hm.shape
  clear hm
  unfold maxLen at hcm
  cases hall : ims.all Lm.validI with
  | false =>
    have HE1 := Lib.hid (HE.out.trans (if_pos hall))
    rw [hall] at CB
    rw [HE1.out, if_neg (by decide)]
    clear HE HE1
    go_enter Tryd.func19, Tryd.ntmps19
    go_wp2_with fail
    with_reducible refine CB.out.mono ?_
    rintro e w2 ⟨rfl, hb2⟩
    go_wp2_with fail
    go_ret2
    exact ⟨_, rfl, World.ownsRow_nil _ _ _ _, hb2⟩
  | true =>
  have HE2 := Lib.hid (HE.out.trans (if_neg (by rw [hall]; decide)))
  rw [hall] at CB
  have HV := Lib.hid hall
  clear HE hall
  by_cases h16 : 16 < ims.length
  · have HE1 := Lib.hid (HE2.out.trans (if_pos h16))
    have d0 : decide (16 < ims.length) = true := decide_eq_true h16
    have d1 : decide (16 < (ims.length : Int)) = true := decide_eq_true (by omega)
    rw [HE1.out, if_neg (by decide)]
    clear HE2 HE1
    go_enter Tryd.func19, Tryd.ntmps19
    go_wp2_with fail
    with_reducible refine CB.out.mono ?_
    rintro e w2 ⟨rfl, hb2⟩
    go_wp2_with fail
    go_ret2
    exact ⟨_, rfl, World.ownsRow_nil _ _ _ _, hb2⟩
  have HE1 := Lib.hid (HE2.out.trans (if_neg h16))
  have d0 : decide (16 < ims.length) = false := decide_eq_false h16
  have d1 : decide (16 < (ims.length : Int)) = false := decide_eq_false (by omega)
  rw [HE1.out, if_pos rfl]
  clear HE2 HE1
  go_enter Tryd.func19, Tryd.ntmps19
  go_wp2_with fail
  with_reducible refine CB.out.mono ?_
  rintro e w2 ⟨rfl, hb2⟩
  go_wp2_with fail
  go_loopw [4, 6, 7, 8, 16] (fun ov _ _ _ iv wr => ∃ k : Nat, k ≤ ims.length ∧ iv = .int .i64 k ∧ Hid (Lm.OwnB wr w.heap.size ov (Lm.combR (ims.take k))) ∧ Hid ((Lm.combR (ims.take k)).length ≤ 4096) ∧ Below w.heap.size w wr) (fun _ _ _ _ iv _ => ims.length - (intOf iv).toNat)
  case atStart => exact ⟨0, by omega, rfl, Lib.hid (World.ownsRow_nil _ _ _ _), Lib.hid (by simp [Lm.combR]), hb2⟩
  case round =>
    obtain ⟨k, hk, rfl, HOWN, HLEN, hbw⟩ := hrel
    by_cases hlt : k < ims.length
    · obtain ⟨b, o, c', hv, hbl, hc⟩ := HM.out.cell hlt
      obtain ⟨rfl, _, rfl⟩ : A = some ⟨b, o, none⟩ ∧ ims.length = ims.length ∧ c = c' := by simpa using hv
      clear hv
      have q0 := (hbw.cell (p := ⟨b, o + k, none⟩) hbl).trans hc
      have hel := HM.out.el k hlt
      have hx4 : (ims.getD k []).length ≤ 4096 := by
        have := Lm.all_get (p := Lm.validI) (d := []) HV.out hlt
        unfold Lm.validI at this
        simp at this
        exact this.1
      have HST := Lib.hid (show Lm.combR (ims.take (k + 1)) = Lm.mergeR (Lm.combR (ims.take k)) (ims.getD k []) by
        unfold Lm.combR
        rw [List.take_succ_eq_append_getElem hlt, List.foldl_append]
        simp only [List.foldl_cons, List.foldl_nil]
        simp [List.getD, hlt])
      obtain ⟨A2, c2, hv2, hl2, hm2⟩ := Lm.Strs.shape hel
      unfold maxLen at hm2
      rw [hv2] at q0 hel
      have HEL := Lib.hid hel
      clear hc hel hv2
      generalize Lm.combR (ims.take k) = d at *
      generalize ims.getD k [] = x at *
      have hd4 := HLEN.out
      go_wp2_with fail
      go_loopw [4, 7, 8, 22] (fun ov _ _ iv wr => ∃ j : Nat, j ≤ x.length ∧ iv = .int .i64 j ∧ Hid (Lm.OwnB wr w.heap.size ov (Lm.mergeR d (x.take j))) ∧ Below w.heap.size w wr) (fun _ _ _ iv _ => x.length - (intOf iv).toNat)
      case atStart => exact ⟨0, by omega, rfl, Lib.hid (by rw [List.take_zero, Lm.mergeR_nil]; exact HOWN.out), hbw⟩
      case round =>
        clear HOWN hbw q0
        obtain ⟨j, hj, rfl, HOWN, hbw⟩ := hrel
        by_cases hjx : j < x.length
        · obtain ⟨b2, o2, c3, hv, hbl2, hc⟩ := HEL.out.cell hjx
          obtain ⟨rfl, _, rfl⟩ : A2 = some ⟨b2, o2, none⟩ ∧ x.length = x.length ∧ c2 = c3 := by simpa using hv
          clear hv
          have q1 := (hbw.cell (p := ⟨b2, o2 + j, none⟩) hbl2).trans hc
          have htk : x.take (j + 1) = x.take j ++ [x.getD j ⟨#[]⟩] := by
            rw [List.take_succ_eq_append_getElem hjx]
            simp [List.getD, hjx]
          have htl : (x.take j).length = j := by rw [List.length_take]; omega
          have hml := Lm.mergeR_len d (x.take j)
          rw [htl] at hml
          by_cases hjd : d.length ≤ j
          · have HST1 := Lib.hid (show Lm.mergeR d (x.take (j + 1)) = Lm.mergeR d (x.take j) ++ [x.getD j ⟨#[]⟩] by
              rw [htk]
              exact Lm.mergeR_put _ _ (by omega) _)
            have hmj : (Lm.mergeR d (x.take j)).length = j := by omega
            obtain ⟨A5, c5, hv5, _⟩ := Lm.OwnB.shape HOWN.out
            rw [hmj] at hv5
            subst hv5
            clear hml htk hc
            have e1 : ((j : Int) == (j : Int)) = true := beq_self_eq_true _
            generalize Lm.mergeR d (x.take j) = m at *
            generalize x.getD j ⟨#[]⟩ = s at *
            subst hmj
            have hsw := hbw.size
            go_wp2_with (at_builtin; refine Lm.box ?_)
            refine Lib.hid ?_
            refine Kit.app strInfo rfl (by decide) rfl _ _ 23 rfl Tryd.underlying23 w.heap.size _ _ _ rfl HOWN.out (Lm.strs [s]) 1 1 rfl rfl (Lm.one_strs [s]) ?c2 ?c3 ?_
            case c2 => omega
            case c3 => omega
            intro v' w4 hown' hb4
            have HOWN' := Lib.hid hown'
            clear hown'
            go_wp2_with fail
            go_roundw
            case rel => exact ⟨m.length + 1, by omega, by go_num, Lib.hid (by
              rw [HST1.out]
              have h := HOWN'.out
              rw [← Lm.strs_append] at h
              show World.ownsRow _ _ _ 1 _ (m ++ [s]).length _
              rw [List.length_append]
              exact h), hbw.trans hb4⟩
            case measure => simp [intOf]; omega
          · obtain ⟨hat, hput⟩ := Lm.mergeR_at d (x.take j) (by omega) (x.getD j ⟨#[]⟩)
            rw [htl, ← htk] at hput
            rw [htl] at hat
            have hmj : j < (Lm.mergeR d (x.take j)).length := by omega
            obtain ⟨A5, c5, hv5, hg5⟩ := Lm.OwnB.shape HOWN.out
            obtain ⟨g, rfl, hgb⟩ := hg5 (by omega)
            subst hv5
            have q2 := HOWN.out.cell hmj
            have z2 := HOWN.out.frozenAt j
            rw [hat] at q2
            have HPUT := Lib.hid (HOWN.out.put j (x.getD j ⟨#[]⟩))
            have HST1 := Lib.hid hput
            have hme : (Lm.mergeR d (x.take j)).set j (d.getD j ⟨#[]⟩) = Lm.mergeR d (x.take j) := by
              rw [← hat]
              simp [List.getD, hmj]
            have HSAME := Lib.hid hme
            clear hme hput htk hc htl hat
            have e1 : ((j : Int) == ((Lm.mergeR d (x.take j)).length : Int)) = false := by rw [beq_eq_false_iff_ne]; omega
            have hml2 : (Lm.mergeR d (x.take j)).length ≤ 8192 := by omega
            clear hml hg5
            generalize Lm.mergeR d (x.take j) = m at *
            generalize x.getD j ⟨#[]⟩ = s at *
            have HMX := Lib.hid (show Lm.mix (d.getD j ⟨#[]⟩) s = if (d.getD j ⟨#[]⟩).size ≠ 2048 ∧ (s.size = 2048 ∨ d.getD j ⟨#[]⟩ = ⟨#[]⟩) then s else d.getD j ⟨#[]⟩ from rfl)
            generalize d.getD j ⟨#[]⟩ = a at *
            by_cases ha : a.size = 2048
            · have HMA := Lib.hid (HMX.out.trans (if_neg (fun h => h.1 ha)))
              have e2 : ((a.size : Int) != 2048) = false := by rw [ha]; rfl
              clear HMX ha
              go_wp2_with fail
              go_roundw
              case rel => exact ⟨j + 1, by omega, by go_num, Lib.hid (by rw [HST1.out, HMA.out, HSAME.out]; exact HOWN.out), hbw⟩
              case measure => simp [intOf]; omega
            have e2 : ((a.size : Int) != 2048) = true := by rw [bne_iff_ne]; omega
            by_cases hs : s.size = 2048
            · have HMA := Lib.hid (HMX.out.trans (if_pos ⟨ha, .inl hs⟩))
              have e3 : ((s.size : Int) == 2048) = true := by rw [hs]; rfl
              clear HMX ha hs HSAME
              go_wp2_with fail
              go_roundw
              case rel => exact ⟨j + 1, by omega, by go_num, Lib.hid (by rw [HST1.out, HMA.out]; exact HPUT.out), hbw.trans ((Below.refl _ _).setCell (p := ⟨g, j, none⟩) hgb _)⟩
              case measure => simp [intOf]; omega
            have e3 : ((s.size : Int) == 2048) = false := by rw [beq_eq_false_iff_ne]; omega
            by_cases hz : a.toList = []
            · have HMA := Lib.hid (HMX.out.trans (if_pos ⟨ha, .inr ((Lm.str_eq a []).1 hz)⟩))
              have e4 : a.toList.isEmpty = true := by rw [hz]; rfl
              clear HMX ha hs hz HSAME
              go_wp2_with fail
              go_roundw
              case rel => exact ⟨j + 1, by omega, by go_num, Lib.hid (by rw [HST1.out, HMA.out]; exact HPUT.out), hbw.trans ((Below.refl _ _).setCell (p := ⟨g, j, none⟩) hgb _)⟩
              case measure => simp [intOf]; omega
            · have HMA := Lib.hid (HMX.out.trans (if_neg (fun h => by
                rcases h.2 with h | h
                · exact hs h
                · exact hz ((Lm.str_eq a []).2 h))))
              have e4 : a.toList.isEmpty = false := by cases hq : a.toList with | nil => exact absurd hq hz | cons _ _ => rfl
              clear HMX ha hs hz HPUT
              go_wp2_with fail
              go_roundw
              case rel => exact ⟨j + 1, by omega, by go_num, Lib.hid (by rw [HST1.out, HMA.out, HSAME.out]; exact HOWN.out), hbw⟩
              case measure => simp [intOf]; omega
        · obtain rfl : j = x.length := by omega
          rw [List.take_length] at HOWN
          go_wp2_with fail
          go_roundw
          case rel => exact ⟨k + 1, by omega, by go_num, Lib.hid (by rw [HST.out]; exact HOWN.out), Lib.hid (by rw [HST.out, Lm.mergeR_len]; omega), hbw⟩
          case measure => simp [intOf]; omega
    · obtain rfl : k = ims.length := by omega
      rw [List.take_length] at HOWN
      go_wp2_with fail
      go_ret2
      exact ⟨_, rfl, HOWN.out, hbw⟩
end Go.Proofs.YtlhechlbmbjffaaDoor
