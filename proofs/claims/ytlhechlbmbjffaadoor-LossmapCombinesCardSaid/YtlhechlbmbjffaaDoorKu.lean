/-
  The walk through LossmapMore.
-/
import Derived.Test.YtlhechlbmbjffaaDoorKq
import Derived.Test.YtlhechlbmbjffaaDoorKt
import Derived.Test.YtlhechlbmbjffaaDoorJo
namespace Go.Proofs.YtlhechlbmbjffaaDoor
open Go.RowKit
namespace Lm
/-- Numbers of 16 bits. -/
def u16s (ds : List Nat) : List Value := ds.map fun (d : Nat) => Value.int .u16 (d : Int)
theorem u16s_len (ds : List Nat) : (u16s ds).length = ds.length := by simp [u16s]
theorem pieces_few {img : List ByteArray} {fs : List F} (h : fs.all okF = true) : (piecesR img fs).length ≤ 129 * fs.length := by
  have : ∀ j, j ≤ fs.length → (upTo img fs j).length ≤ 129 * j := by
    intro j
    induction j with
    | zero => intro _; simp [upTo]
    | succ j ih =>
      intro hj
      have hf := (okF_iff _).1 (all_get (d := f0) h (show j < fs.length by omega))
      have := ih (by omega)
      rw [upTo_succ, List.length_append, Nat.mul_succ]
      have : (fileP img fs j).length ≤ 129 := by
        unfold fileP
        rw [List.length_map, List.length_range]
        unfold blk
        omega
      omega
  exact this fs.length (Nat.le_refl _)
theorem offR_le {img : List ByteArray} {fs : List F} (h : fs.all okF = true) (q : ByteArray) : offR fs q ≤ bytesF fs := by
  have h1 := base_le (img := img) h q fs.length (Nat.le_refl _)
  rw [List.take_length] at h1
  rw [← (lost_fit (img := img) h q).2]
  exact h1
/-- What Bytes asks of Lost's result. -/
theorem lost_few {img : List ByteArray} {fs : List F} (h : fs.all okF = true) (hs : Small img fs) (img' : List ByteArray) : (∀ x ∈ lostR img' fs, 0 ≤ x.len ∧ x.len ≤ 1048576) ∧ (lostR img' fs).length ≤ 1048576 := by
  refine ⟨fun x hx => ?_, ?_⟩
  · have hf := lost_fit (img := img') h x.path
    have hm : x ∈ ofP x.path (lostR img' fs) := List.mem_filter.2 ⟨hx, by simp⟩
    have := hf.1.neat.each x hm
    have h2 := hf.2
    have h3 := offR_le (img := img') h x.path
    have := hs.sum
    omega
  · have h1 := outR_len (M := lossesR img' fs) (K := 129 * fs.length) (fun q => by
      have key : ∀ (ps : List P) (s : ByteArray → List L), (lossM s ps q).length ≤ (s q).length + ps.length := by
        intro ps
        induction ps with
        | nil => intro s; simp [lossM]
        | cons p t ih =>
          intro s
          simp only [lossM, List.length_cons]
          split
          · have := ih s; omega
          · have h2 := ih (fun q => if q = p.path then addL (s p.path) p else s q)
            have h3 : (if q = p.path then addL (s p.path) p else s q).length ≤ (s q).length + 1 := by
              split
              · rename_i e; rw [e]; exact addL_len _ _
              · omega
            have h4 : (lossM (fun q => if q = p.path then addL (s p.path) p else s q) t q).length ≤ (if q = p.path then addL (s p.path) p else s q).length + t.length := h2
            omega
      have h2 := key (piecesR img' fs) (fun _ => [])
      simp only [List.length_nil, Nat.zero_add] at h2
      exact Nat.le_trans h2 (pieces_few h)) fs fs.length
    have h50 := hs.files
    have h2 : 129 * fs.length * fs.length ≤ 129 * 50 * 50 := Nat.mul_le_mul (Nat.mul_le_mul_left _ h50) h50
    unfold lostR
    omega
end Lm

set_option maxHeartbeats 25600000 in
set_option maxRecDepth 100000 in
/-- LossmapMore. -/
theorem lawMore_any (v : Value) (img : List ByteArray) (u : Value) (fs : List Lm.F) (t : Value) (ds : List Nat) (w : World) (hm : Kit.RowS w v (Lm.strs img)) (hf : Lm.Files w u fs) (hd : Kit.Row w t (Lm.u16s ds) ∧ ∀ d ∈ ds, d < 65536) (hp : Lm.Pow w) :
    Calls Tryd.prog 5 #[v, u, t] w fun e w' => e = .returned (.bool true) ∧ Below w.heap.size w w' := by
  obtain ⟨hd, hdb⟩ := hd
  have CA := Lib.hid (awake_any w hp)
  have HMS := Lib.hid hm
  have HF := Lib.hid hf
  have HD := Lib.hid hd
  have HDB := Lib.hid hdb
  obtain ⟨A, c, rfl, hlc, hcm⟩ := Lm.Strs.shape hm.1
  obtain ⟨B, d, rfl, hld, hdm, _⟩ := hf
  obtain ⟨T, tc, rfl, hlt, htm, _⟩ := hd
  rw [Lm.u16s_len] at *
  unfold maxLen at hcm hdm htm
  clear hm hp hdb
  go_enter Tryd.func5, Tryd.ntmps5
  go_wp2_with fail
  with_reducible refine CA.out.mono ?_
  rintro e w1 ⟨rfl, hb1⟩
  have CF := Lib.hid (few_any _ _ img fs w1 (HMS.out.1.below hb1) (HF.out.below hb1))
  go_wp2_with fail
  with_reducible refine CF.out.mono ?_
  rintro e w2 ⟨bb, rfl, hsm, hb2⟩
  have HB2 := Lib.hid (hb1.trans (hb2.mono hb1.size))
  clear hb1 hb2 CA CF
  cases bb with
  | false =>
    go_wp2_with fail
    go_ret
    exact ⟨rfl, HB2.out⟩
  | true =>
  have HS := Lib.hid (hsm rfl)
  clear hsm
  by_cases h50 : 50 < ds.length
  · have d0 : decide (50 < ds.length) = true := decide_eq_true h50
    have d1 : decide (50 < (ds.length : Int)) = true := decide_eq_true (by omega)
    go_wp2_with fail
    go_ret
    exact ⟨rfl, HB2.out⟩
  have d0 : decide (50 < ds.length) = false := decide_eq_false h50
  have d1 : decide (50 < (ds.length : Int)) = false := decide_eq_false (by omega)
  have CL := Lib.hid (lost_any _ _ img fs w2 (HMS.out.1.below HB2.out) (HF.out.below HB2.out) (fun j hj => (HS.out.each j hj).1))
  go_wp2_with fail
  with_reducible refine CL.out.mono ?_
  rintro e w3 ⟨r1, rfl, hO3, hb3⟩
  have HB3 := Lib.hid (HB2.out.trans (hb3.mono HB2.out.size))
  have HL3 := Lib.hid (Lm.OwnL.row hO3)
  have CC := Lib.hid (cloneI_any _ img w3 (HMS.out.below HB3.out) (by have := HS.out.images; omega))
  clear CL hb3 HB2 hO3 d0 d1
  go_wp2_with fail
  with_reducible refine CC.out.mono ?_
  rintro e w4 ⟨v9, rfl, hO4, hb4⟩
  have HO4 := Lib.hid (show Lm.OwnB w4 w3.heap.size v9 img from hO4)
  have HB4 := Lib.hid hb4
  obtain ⟨A9, c9, rfl, hg9⟩ := Lm.OwnB.shape (show Lm.OwnB w4 w3.heap.size v9 img from hO4)
  clear CC hb4 hO4
  go_wp2_with fail
  go_loopw [11, 45] (fun _ iv wr => ∃ j : Nat, j ≤ ds.length ∧ iv = .int .i64 j ∧ Hid (Lm.OwnB wr w3.heap.size (.slice A9 img.length c9) (Lm.dmg img (ds.take j))) ∧ Below w3.heap.size w3 wr) (fun _ iv _ => ds.length - (intOf iv).toNat)
  case atStart => exact ⟨0, Nat.zero_le _, rfl, HO4, HB4.out⟩
  case round =>
    obtain ⟨j, hj, rfl, HOW, hbr⟩ := hrel
    by_cases hjl : j < ds.length
    · have HDR := Lib.hid (HD.out.below (HB3.out.trans (hbr.mono HB3.out.size)))
      obtain ⟨T', tc', hv', _, _, htc⟩ := HDR.out
      obtain ⟨tb, tf, rfl, htb, hcc⟩ := htc (by rw [Lm.u16s_len]; omega)
      rw [Lm.u16s_len] at hv'
      obtain ⟨rfl, _, rfl⟩ : T = some ⟨tb, tf, none⟩ ∧ ds.length = ds.length ∧ tc = tc' := by simpa using hv'
      clear hv' htc HDR
      obtain ⟨dd, hdd⟩ : ∃ dd, dd = ds[j] := ⟨_, rfl⟩
      have q0 := hcc j (.int .u16 (dd : Int)) (by simp [Lm.u16s, hdd, hjl])
      have hd6 : dd < 65536 := HDB.out dd (by rw [hdd]; exact List.getElem_mem hjl)
      have HST := Lib.hid (show Lm.dmg img (ds.take (j + 1)) = (Lm.dmg img (ds.take j)).set (dd % (Lm.dmg img (ds.take j)).length) ⟨#[33]⟩ by rw [List.take_succ_eq_append_getElem hjl, ← hdd, Lm.dmg_snoc])
      have hdl := Lm.dmg_len (ds.take j) img
      clear hcc hdd
      generalize Lm.dmg img (ds.take j) = bd at *
      by_cases h0 : img.length = 0
      · have e0 : decide (0 < img.length) = false := decide_eq_false (by omega)
        have e1 : decide (0 < (img.length : Int)) = false := decide_eq_false (by omega)
        have hbn : bd = [] := List.eq_nil_of_length_eq_zero (by omega)
        have HSAME := Lib.hid (show bd.set (dd % bd.length) ⟨#[33]⟩ = bd by rw [hbn]; rfl)
        clear h0 hbn hdl
        go_wp2_with fail
        go_roundw
        case rel => exact ⟨j + 1, by omega, by go_num, Lib.hid (by rw [HST.out, HSAME.out]; exact HOW.out), hbr⟩
        case measure => simp [intOf]; omega
      · obtain ⟨gb, rfl, hgb⟩ := hg9 (by omega)
        have hpos : 0 < img.length := by omega
        have e0 : decide (0 < img.length) = true := decide_eq_true hpos
        have e1 : decide (0 < (img.length : Int)) = true := decide_eq_true (by omega)
        obtain ⟨i, hi⟩ : ∃ i, i = dd % img.length := ⟨_, rfl⟩
        have hil : i < img.length := by rw [hi]; exact Nat.mod_lt _ hpos
        have hrem : (dd : Int) % (img.length : Int) = (i : Int) := by rw [hi]; exact (Int.natCast_emod _ _).symm
        have HO := Lib.hid (show Lm.OwnB wr w3.heap.size (.slice (some ⟨gb, 0, none⟩) bd.length c9) bd from by rw [hdl]; exact HOW.out)
        have q2 := HO.out.cell (j := i) (by omega)
        have z2 : wr.frozen? ⟨gb, i, none⟩ = false := HO.out.frozenAt i
        have HPT := Lib.hid (HO.out.put i ⟨#[33]⟩)
        rw [hdl, ← hi] at HST
        rw [hdl] at HPT
        clear hi
        go_wp2_with fail
        go_roundw
        case rel => exact ⟨j + 1, by omega, by go_num, Lib.hid (by rw [HST.out]; exact HPT.out), hbr.setCell (p := ⟨gb, i, none⟩) hgb _⟩
        case measure => simp [intOf]; omega
    · obtain rfl : j = ds.length := by omega
      rw [List.take_length] at HOW
      have hwo := Lm.dmg_worse img ds img (Lm.Worse.refl img)
      generalize Lm.dmg img ds = bad at *
      have HBR := Lib.hid (HB3.out.trans (hbr.mono HB3.out.size))
      have CL := Lib.hid (lost_any _ _ bad fs wr (Lm.OwnB.strs HOW.out) (HF.out.below HBR.out) (fun j hj => (HS.out.each j hj).1))
      have HWO := Lib.hid hwo
      have HB34 := Lib.hid hbr
      clear hwo hbr
      by_cases hc : Lm.chkR img fs = 0
      · have hc2 := HWO.out.chk hc
        have hall := (Lm.chkR_zero hc).2.2
        have hby := Lm.worse_bytes HWO.out hall
        rw [hc2, if_pos rfl] at CL
        have HFA := Lib.hid (fun q => Lm.lost_fit (img := img) hall q)
        have HFB := Lib.hid (fun q => Lm.lost_fit (img := bad) hall q)
        have HIM := Lib.hid (fun q => Lm.worse_bits HWO.out fs q)
        have HFW := Lib.hid (fun i => Lm.lost_few (img := img) hall HS.out i)
        have HOF := Lib.hid (fun q => Lm.offR_le (img := img) hall q)
        have HBY := Lib.hid hby
        have HALL := Lib.hid hall
        rw [hc, if_pos rfl] at HL3
        rw [hc]
        clear hc hc2 hby hall
        go_wp2_with fail
        with_reducible refine CL.out.mono ?_
        rintro e w6 ⟨r2, rfl, hO6, hb6⟩
        have HL6 := Lib.hid (Lm.OwnL.row hO6)
        have HB36 := Lib.hid (HB34.out.trans (hb6.mono HB34.out.size))
        have CD := Lib.hid (damaged_any r1 (Lm.lostR img fs) w6 (HL3.out.below HB36.out) (HFW.out img).2)
        clear CL hO6 hb6
        go_wp2_with fail
        with_reducible refine CD.out.mono ?_
        rintro e w7 ⟨r3, rfl, hO7, hb7⟩
        obtain ⟨A3, c3, rfl, hg3⟩ := Lm.OwnB.shape (show Lm.OwnB w7 w6.heap.size r3 (Lm.damR [] (Lm.lostR img fs)) from hO7)
        have HO7 := Lib.hid (show Lm.OwnB w7 w6.heap.size _ (Lm.damR [] (Lm.lostR img fs)) from hO7)
        have HB37 := Lib.hid (HB36.out.trans (hb7.mono HB36.out.size))
        have HL67 := Lib.hid (HL6.out.below hb7)
        have hdl := Lm.damR_len (Lm.lostR img fs) []
        have hdl2 := (HFW.out img).2
        simp only [List.length_nil, Nat.zero_add] at hdl
        clear CD hO7 hb7
        generalize Lm.damR [] (Lm.lostR img fs) = dam at *
        have hdm2 : dam.length ≤ 1048576 := by omega
        clear hdl hdl2
        go_wp2_with fail
        go_loopw [15, 16, 18, 19, 20, 21, 22, 23, 82] (fun _ _ _ _ _ _ _ _ iv wr => ∃ j : Nat, j ≤ dam.length ∧ iv = .int .i64 j ∧ Below w7.heap.size w7 wr) (fun _ _ _ _ _ _ _ _ iv _ => dam.length - (intOf iv).toNat)
        case atStart => exact ⟨0, Nat.zero_le _, rfl, Below.refl _ _⟩
        case round =>
          obtain ⟨j, hj, rfl, hbr⟩ := hrel
          obtain ⟨wo, rfl⟩ : ∃ wo : World, wo = wr := ⟨_, rfl⟩
          by_cases hjl : j < dam.length
          · obtain ⟨g3, rfl, _⟩ := hg3 (by omega)
            have k0 := HO7.out.cell hjl
            have q0 := (hbr.cell (p := ⟨g3, j, none⟩) (World.block_lt_of_cell? _ _ k0)).trans k0
            clear k0
            generalize dam.getD j ⟨#[]⟩ = s at *
            have HBO := Lib.hid (show Below w.heap.size w wo from HB3.out.trans ((HB37.out.trans (hbr.mono HB37.out.size)).mono HB3.out.size))
            go_wp2_with fail
            go_loopw [16, 18, 88] (fun nv _ kv wr => ∃ k : Nat, k ≤ fs.length ∧ kv = .int .i64 k ∧ nv = .int .i64 (Lm.offR (fs.take k) s) ∧ Below wo.heap.size wo wr) (fun _ _ kv _ => fs.length - (intOf kv).toNat)
            case atStart => exact ⟨0, Nat.zero_le _, rfl, rfl, Below.refl _ _⟩
            case round =>
              obtain ⟨k, hk, rfl, rfl, hbk⟩ := hrel
              by_cases hkl : k < fs.length
              · obtain ⟨B', d', hv', _, _, hcells⟩ := HF.out.below (HBO.out.trans (hbk.mono HBO.out.size))
                obtain ⟨bg, bo, rfl, hbl, hcc⟩ := hcells (by omega)
                obtain ⟨rfl, _, rfl⟩ : B = some ⟨bg, bo, none⟩ ∧ fs.length = fs.length ∧ d = d' := by simpa using hv'
                clear hv' hcells
                have p0 := hcc k hkl 0 _ rfl
                have p1 := hcc k hkl 1 _ rfl
                have p2 := hcc k hkl 2 _ rfl
                simp only [Nat.add_zero] at p0
                have hokf := (Lm.okF_iff _).1 (Lm.all_get (d := Lm.f0) HALL.out hkl)
                have hob := Lm.offR_bd HALL.out k s
                have HON := Lib.hid (Lm.offR_snoc hkl s)
                have hf50 := HS.out.files
                clear hcc
                generalize fs.getD k Lm.f0 = x at *
                generalize Lm.offR (fs.take k) s = o at *
                obtain ⟨pa, st, ln⟩ := x
                simp only [Lm.fC] at *
                obtain ⟨f1, f2, f3, f4, f5⟩ := hokf
                obtain ⟨o1, o2⟩ := hob
                have ho3 : o ≤ 13107200 := by omega
                have hba := (Below.refl wr.heap.size wr).alloc (Nat.le_refl _) (.cells #[.string pa, .int .i64 st, .int .i64 ln] 41)
                have HBA := Lib.hid (hbk.trans (hba.mono hbk.size))
                clear hba o2 f5
                by_cases hpp : pa.toList = s.toList
                · have e1 : (pa.toList == s.toList) = true := by rw [hpp]; simp
                  have hpe : s = pa := by
                    have h := hpp
                    rw [Lib.toList_data, Lib.toList_data] at h
                    cases pa; cases s
                    simp at h
                    rw [h]
                  have HON1 := Lib.hid (show Lm.offR (fs.take (k + 1)) s = o + ln by rw [HON.out, if_pos hpe])
                  clear hpe hpp HON
                  go_wp2_with fail
                  go_roundw
                  case rel => exact ⟨k + 1, by omega, by go_num, by rw [HON1.out], HBA.out⟩
                  case measure => simp [intOf]; omega
                · have e1 : (pa.toList == s.toList) = false := by rw [beq_eq_false_iff_ne]; exact hpp
                  have HON1 := Lib.hid (show Lm.offR (fs.take (k + 1)) s = o by rw [HON.out, if_neg (fun e => hpp (by rw [e])), Int.add_zero])
                  clear hpp HON
                  go_wp2_with fail
                  go_roundw
                  case rel => exact ⟨k + 1, by omega, by go_num, by rw [HON1.out], HBA.out⟩
                  case measure => simp [intOf]; omega
              · obtain rfl : k = fs.length := by omega
                rw [List.take_length]
                have hfa := HFA.out s
                have hfb := HFB.out s
                have hof := HOF.out s
                have him := HIM.out s
                have hsum := HS.out.sum
                obtain ⟨N, hN⟩ : ∃ N : Nat, N = (Lm.bits s (Lm.piecesR img fs)).length := ⟨_, rfl⟩
                have hNo : Lm.offR fs s = (N : Int) := by rw [hN]; exact hfa.2.symm
                have hN2 : N ≤ 1048576 := by omega
                have hNb : N = (Lm.bits s (Lm.piecesR bad fs)).length := by rw [hN]; exact him.len
                rw [hNo]
                have HBX := Lib.hid (show Below w7.heap.size w7 wr from hbr.trans (hbk.mono hbr.size))
                have CG1 := Lib.hid (lost_neat r1 (Lm.lostR img fs) s N wr (HL3.out.below (HB37.out.trans (HBX.out.mono HB37.out.size))) hN2 (by rw [hN]; exact hfa.1.neat))
                have HG := Lib.hid (show ∀ q, q < N → Lm.gone s (Lm.lostR img fs) q = true → Lm.gone s (Lm.lostR bad fs) q = true from fun q hq h => by
                  have h1 := hfa.1.says q (by omega)
                  have h2 := hfb.1.says q (by omega)
                  have h3 : (Lm.ofP s (Lm.lostR img fs)).any (fun x => Lm.holds x q) = true := h
                  rw [h1] at h3
                  have h4 := him.at' q h3
                  rw [← h2] at h4
                  exact h4)
                have CG2 := Lib.hid (fun W hW => lost_neat r2 (Lm.lostR bad fs) s N W (HL67.out.below hW) hN2 (by rw [hNb]; exact hfb.1.neat))
                clear hfa hfb hof him hsum hN hNo hNb
                go_wp2_with fail
                with_reducible refine CG1.out.mono ?_
                rintro e w8 ⟨g1, rfl, hO8, hb8⟩
                have HB8 := Lib.hid (HBX.out.trans (hb8.mono HBX.out.size))
                have CG3 := Lib.hid (CG2.out w8 HB8.out)
                have HO8 := Lib.hid hO8
                clear CG1 CG2 hO8 hb8
                go_wp2_with fail
                with_reducible refine CG3.out.mono ?_
                rintro e w9 ⟨g2, rfl, hO9, hb9⟩
                have HO9 := Lib.hid hO9
                have HO89 := Lib.hid (HO8.out.kept (Kit.grown_of_below hb9) (by simp [Value.ownBlock]))
                have HB9 := Lib.hid (HB8.out.trans (hb9.mono HB8.out.size))
                clear CG3 hO9 hb9
                go_wp2_with fail
                go_loopw [23, 123] (fun _ kv wr => ∃ i : Nat, i ≤ N ∧ kv = .int .i64 i ∧ Below w9.heap.size w9 wr) (fun _ kv _ => N - (intOf kv).toNat)
                case atStart => exact ⟨0, Nat.zero_le _, rfl, Below.refl _ _⟩
                case round =>
                  obtain ⟨i, hi, rfl, hbi⟩ := hrel
                  by_cases hiN : i < N
                  · have c1 := Lm.OwnT.cell HO89.out hiN
                    have c2 := HO9.out.cell hiN
                    have k1 := (hbi.cell (p := ⟨g1, i, none⟩) (World.block_lt_of_cell? _ _ c1)).trans c1
                    have k2 := (hbi.cell (p := ⟨g2, i, none⟩) (World.block_lt_of_cell? _ _ c2)).trans c2
                    have hgo := HG.out i hiN
                    clear c1 c2
                    generalize Lm.gone s (Lm.lostR img fs) i = x1 at *
                    generalize Lm.gone s (Lm.lostR bad fs) i = x2 at *
                    cases x1 with
                    | false =>
                      clear hgo
                      go_wp2_with fail
                      go_roundw
                      case rel => exact ⟨i + 1, by omega, by go_num, hbi⟩
                      case measure => simp [intOf]; omega
                    | true =>
                      have hx2 := hgo rfl
                      subst hx2
                      clear hgo
                      go_wp2_with fail
                      go_roundw
                      case rel => exact ⟨i + 1, by omega, by go_num, hbi⟩
                      case measure => simp [intOf]; omega
                  · obtain rfl : i = N := by omega
                    go_wp2_with fail
                    go_roundw
                    case rel => exact ⟨j + 1, by omega, by go_num, HB9.out.trans (hbi.mono HB9.out.size)⟩
                    case measure => simp [intOf]; omega
          · obtain rfl : j = dam.length := by omega
            have HBZ := Lib.hid (HB37.out.trans (hbr.mono HB37.out.size))
            have CB2 := Lib.hid (bytes_any r2 (Lm.lostR bad fs) wo (HL67.out.below hbr) (HFW.out bad).1 (HFW.out bad).2)
            go_wp2_with fail
            with_reducible refine CB2.out.mono ?_
            rintro e w8 ⟨rfl, hb8⟩
            have CB1 := Lib.hid (bytes_any r1 (Lm.lostR img fs) w8 (HL3.out.below (HBZ.out.trans (hb8.mono HBZ.out.size))) (HFW.out img).1 (HFW.out img).2)
            have dge : decide (Lm.bytesR (Lm.lostR img fs) ≤ Lm.bytesR (Lm.lostR bad fs)) = true := decide_eq_true HBY.out
            have HB8 := Lib.hid (HBZ.out.trans (hb8.mono HBZ.out.size))
            clear hb8 CB2
            go_wp2_with fail
            with_reducible refine CB1.out.mono ?_
            rintro e w9 ⟨rfl, hb9⟩
            go_wp2_with fail
            go_ret
            first
              | exact ⟨rfl, HB3.out.trans ((HB8.out.trans (hb9.mono HB8.out.size)).mono HB3.out.size)⟩
              | exact ⟨by simp [dge], HB3.out.trans ((HB8.out.trans (hb9.mono HB8.out.size)).mono HB3.out.size)⟩
      · have hne : (Lm.chkR img fs == 0) = false := by rw [beq_eq_false_iff_ne]; exact hc
        clear hc
        generalize Lm.chkR img fs = e0 at *
        generalize Lm.chkR bad fs = f0 at *
        go_wp2_with fail
        with_reducible refine CL.out.mono ?_
        rintro e w6 ⟨r2, rfl, hO6, hb6⟩
        have HBE := Lib.hid (HB3.out.trans ((HB34.out.trans (hb6.mono HB34.out.size)).mono HB3.out.size))
        clear hO6 hb6
        cases hef : (e0 == f0) with
        | true =>
          go_wp2_with fail
          go_ret
          exact ⟨rfl, HBE.out⟩
        | false =>
          have hne2 : (e0 != 0) = true := by rw [bne, hne]; rfl
          go_wp2_with fail
          go_ret
          exact ⟨rfl, HBE.out⟩
end Go.Proofs.YtlhechlbmbjffaaDoor
