/-
  Plain laws of combinations; the law's closure that damages an image.
-/
import Derived.Test.YtlhechlbmbjffaaDoorKu
namespace Go.Proofs.YtlhechlbmbjffaaDoor
open Go.RowKit
namespace Lm
theorem merge_at : ∀ (a b : List ByteArray), a.length = b.length → ∀ i, i < a.length → (mergeR a b).getD i ⟨#[]⟩ = mix (a.getD i ⟨#[]⟩) (b.getD i ⟨#[]⟩)
  | [], _, _, i, hi => by simp at hi
  | x :: a, [], h, _, _ => by simp at h
  | x :: a, y :: b, h, i, hi => by
    cases i with
    | zero => rfl
    | succ i =>
      have := merge_at a b (by simpa using h) i (by simpa using hi)
      simp only [mergeR, List.getD_cons_succ]
      exact this
theorem mix_l {a b : ByteArray} (h : a.size = 2048) : mix a b = a := by
  unfold mix
  rw [if_neg (fun e => e.1 h)]
theorem mix_r {a b : ByteArray} (h : a.size ≠ 2048) (h2 : b.size = 2048) : mix a b = b := by
  unfold mix
  rw [if_pos ⟨h, .inl h2⟩]
theorem mix_n {a b : ByteArray} (h : a.size ≠ 2048) (h2 : b.size ≠ 2048) : (mix a b).size ≠ 2048 := by
  unfold mix
  split
  · exact h2
  · exact h
theorem mix_ok {a b : ByteArray} (h : okB a = true) (h2 : okB b = true) : okB (mix a b) = true := by
  unfold mix
  split
  · exact h2
  · exact h
/-- Two readings of one length, combined. -/
structure Comb (a b c : List ByteArray) : Prop where
  la : c.length = a.length
  lb : c.length = b.length
  at' : ∀ i, i < c.length → c.getD i ⟨#[]⟩ = mix (a.getD i ⟨#[]⟩) (b.getD i ⟨#[]⟩)
theorem comb_mk {a b : List ByteArray} (h : a.length = b.length) : Comb a b (mergeR a b) := by
  have hl := mergeR_len a b
  exact ⟨by omega, by omega, fun i hi => merge_at a b h i (by omega)⟩
theorem Comb.valid {a b c : List ByteArray} (h : Comb a b c) (ha : validI a = true) (hb : validI b = true) : validI c = true := by
  unfold validI at ha hb ⊢
  rw [Bool.and_eq_true, List.all_eq_true] at ha hb ⊢
  refine ⟨by rw [h.la]; exact ha.1, fun x hx => ?_⟩
  obtain ⟨j, hj, rfl⟩ := List.getElem_of_mem hx
  have := h.at' j hj
  have hja : j < a.length := by rw [← h.la]; exact hj
  have hjb : j < b.length := by rw [← h.lb]; exact hj
  rw [List.getD_eq_getElem?_getD, List.getD_eq_getElem?_getD, List.getD_eq_getElem?_getD, List.getElem?_eq_getElem hj, List.getElem?_eq_getElem hja, List.getElem?_eq_getElem hjb] at this
  simp only [Option.getD_some] at this
  rw [this]
  exact mix_ok (ha.2 _ (List.getElem_mem hja)) (hb.2 _ (List.getElem_mem hjb))
theorem getD_in {a : List ByteArray} {k : Nat} (h : (a.getD k ⟨#[]⟩).size = 2048) : k < a.length := by
  rcases Nat.lt_or_ge k a.length with h1 | h1
  · exact h1
  · rw [List.getD_eq_getElem?_getD, List.getElem?_eq_none h1] at h
    exact absurd h (by decide)
theorem Comb.left {a b c : List ByteArray} (h : Comb a b c) (k : Int) (hr : readable a k = true) : readable c k = true := by
  unfold readable at hr ⊢
  simp only [Bool.and_eq_true, decide_eq_true_eq] at hr ⊢
  have := h.at' k.toNat (by rw [h.la]; exact getD_in hr.2)
  rw [this, mix_l hr.2, h.la]
  exact hr
theorem Comb.right {a b c : List ByteArray} (h : Comb a b c) (k : Int) (hr : readable b k = true) : readable c k = true := by
  unfold readable at hr ⊢
  simp only [Bool.and_eq_true, decide_eq_true_eq] at hr ⊢
  have := h.at' k.toNat (by rw [h.lb]; exact getD_in hr.2)
  rw [this]
  by_cases ha : (a.getD k.toNat ⟨#[]⟩).size = 2048
  · rw [mix_l ha, h.lb]; exact ⟨hr.1, ha⟩
  · rw [mix_r ha hr.2, h.lb]; exact hr
/-- check, at a valid image. -/
def chkF (fs : List F) : Int := if 1024 < fs.length then 7 else if fs.all okF = true then 0 else 1
theorem chk_valid {img : List ByteArray} (h : validI img = true) (fs : List F) : chkR img fs = chkF fs := if_neg (by rw [h]; decide)
theorem chkF_zero {fs : List F} (h : chkF fs = 0) : fs.all okF = true := by
  unfold chkF at h
  split at h
  · cases h
  · split at h
    · rename_i h1; exact h1
    · cases h
theorem Worse.same {a b : List ByteArray} (h : Worse a b) {j : Nat} (hs : (b.getD j ⟨#[]⟩).size = 2048) : b.getD j ⟨#[]⟩ = a.getD j ⟨#[]⟩ := by
  rcases h.at' j with e | e
  · exact e
  · rw [e] at hs; exact absurd hs (by decide)
end Lm

set_option maxHeartbeats 6400000 in
set_option maxRecDepth 100000 in
/-- LossmapCombines$1. -/
theorem damC_any (A : Option Addr) (c : Nat) (img : List ByteArray) (t : Value) (ds : List Nat) (g : Nat) (w : World) (hbx : w.cell? ⟨g, 0, none⟩ = some (.slice A img.length c)) (hm : Kit.RowS w (.slice A img.length c) (Lm.strs img)) (hil : img.length ≤ 4096) (hd : Kit.Row w t (Lm.u16s ds)) (hdb : ∀ d ∈ ds, d < 65536) :
    Calls Tryd.prog 18 #[t, .pointer (some ⟨g, 0, none⟩)] w fun e w' => ∃ v', e = .returned v' ∧ Lm.OwnB w' w.heap.size v' (Lm.dmg img ds) ∧ Below w.heap.size w w' := by
  have HD := Lib.hid hd
  have HDB := Lib.hid hdb
  have CC := Lib.hid (cloneI_any _ img w hm hil)
  obtain ⟨T, tc, rfl, hlt, htm, _⟩ := hd
  rw [Lm.u16s_len] at *
  unfold maxLen at htm
  clear hm hdb
  go_enter Tryd.func18, Tryd.ntmps18
  go_wp2_with fail
  with_reducible refine CC.out.mono ?_
  rintro e w4 ⟨v9, rfl, hO4, hb4⟩
  have HO4 := Lib.hid (show Lm.OwnB w4 w.heap.size v9 img from hO4)
  have HB4 := Lib.hid hb4
  obtain ⟨A9, c9, rfl, hg9⟩ := Lm.OwnB.shape (show Lm.OwnB w4 w.heap.size v9 img from hO4)
  clear CC hb4 hO4 hbx
  go_wp2_with fail
  go_loopw [6, 11] (fun _ iv wr => ∃ j : Nat, j ≤ ds.length ∧ iv = .int .i64 j ∧ Hid (Lm.OwnB wr w.heap.size (.slice A9 img.length c9) (Lm.dmg img (ds.take j))) ∧ Below w.heap.size w wr) (fun _ iv _ => ds.length - (intOf iv).toNat)
  case atStart => exact ⟨0, Nat.zero_le _, rfl, HO4, HB4.out⟩
  case round =>
    obtain ⟨j, hj, rfl, HOW, hbr⟩ := hrel
    by_cases hjl : j < ds.length
    · have HDR := Lib.hid (HD.out.below hbr)
      obtain ⟨T', tc', hv', _, _, htc⟩ := HDR.out
      obtain ⟨tb, tf, rfl, htb, hcc⟩ := htc (by rw [Lm.u16s_len]; omega)
      rw [Lm.u16s_len] at hv'
      obtain ⟨rfl, _, rfl⟩ : T = some ⟨tb, tf, none⟩ ∧ ds.length = ds.length ∧ tc = tc' := by simpa using hv'
      clear hv' htc HDR
      obtain ⟨dd, hdd⟩ : ∃ dd, dd = ds[j] := ⟨_, rfl⟩
      have q0 := hcc j (.int .u16 (dd : Int)) (by simp [Lm.u16s, hdd, hjl])
      have hd6 : dd < 65536 := HDB.out dd (by rw [hdd]; exact List.getElem_mem hjl)
      have HST := Lib.hid (show Lm.dmg img (ds.take (j + 1)) = (Lm.dmg img (ds.take j)).set (dd % (Lm.dmg img (ds.take j)).length) ⟨#[33]⟩ by rw [List.take_succ_eq_append_getElem hjl, ← hdd, Lm.dmg_snoc])
      have hdl := Lm.dmg_len (ds.take j) img
      clear hcc hdd
      generalize Lm.dmg img (ds.take j) = bd at *
      by_cases h0 : img.length = 0
      · have e0 : decide (0 < img.length) = false := decide_eq_false (by omega)
        have e1 : decide (0 < (img.length : Int)) = false := decide_eq_false (by omega)
        have hbn : bd = [] := List.eq_nil_of_length_eq_zero (by omega)
        have HSAME := Lib.hid (show bd.set (dd % bd.length) ⟨#[33]⟩ = bd by rw [hbn]; rfl)
        clear h0 hbn hdl
        go_wp2_with fail
        go_roundw
        case rel => exact ⟨j + 1, by omega, by go_num, Lib.hid (by rw [HST.out, HSAME.out]; exact HOW.out), hbr⟩
        case measure => simp [intOf]; omega
      · obtain ⟨gb, rfl, hgb⟩ := hg9 (by omega)
        have hpos : 0 < img.length := by omega
        have e0 : decide (0 < img.length) = true := decide_eq_true hpos
        have e1 : decide (0 < (img.length : Int)) = true := decide_eq_true (by omega)
        obtain ⟨i, hi⟩ : ∃ i, i = dd % img.length := ⟨_, rfl⟩
        have hil : i < img.length := by rw [hi]; exact Nat.mod_lt _ hpos
        have hrem : (dd : Int) % (img.length : Int) = (i : Int) := by rw [hi]; exact (Int.natCast_emod _ _).symm
        have HO := Lib.hid (show Lm.OwnB wr w.heap.size (.slice (some ⟨gb, 0, none⟩) bd.length c9) bd from by rw [hdl]; exact HOW.out)
        have q2 := HO.out.cell (j := i) (by omega)
        have z2 : wr.frozen? ⟨gb, i, none⟩ = false := HO.out.frozenAt i
        have HPT := Lib.hid (HO.out.put i ⟨#[33]⟩)
        rw [hdl, ← hi] at HST
        rw [hdl] at HPT
        clear hi
        go_wp2_with fail
        go_roundw
        case rel => exact ⟨j + 1, by omega, by go_num, Lib.hid (by rw [HST.out]; exact HPT.out), hbr.setCell (p := ⟨gb, i, none⟩) hgb _⟩
        case measure => simp [intOf]; omega
    · obtain rfl : j = ds.length := by omega
      rw [List.take_length] at HOW
      go_wp2_with fail
      go_ret
      exact ⟨_, rfl, HOW.out, hbr⟩
end Go.Proofs.YtlhechlbmbjffaaDoor
