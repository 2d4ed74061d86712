/-
  The walk through lossmap.Recover.
-/
import Derived.Test.YtlhechlbmbjffaaDoorKa
namespace Go.Proofs.YtlhechlbmbjffaaDoor
open Go.RowKit Go.Maps
attribute [local go_sem] Oper.semAt_some

set_option maxHeartbeats 12800000 in
set_option maxRecDepth 100000 in
/-- Recover. -/
theorem recover_any (v u : Value) (img : List ByteArray) (fs : List Lm.F) (path : ByteArray) (w : World) (hm : Lm.Strs w v img) (hf : Lm.Files w u fs) (hps : ∀ j, j < fs.length → (fs.getD j Lm.f0).path.size ≤ 500) :
    Calls Tryd.prog 11 #[v, u, .string path] w fun e w' => e = .returned (.tuple #[.string ⟨(if Lm.recE img fs path = 0 then Lm.recR img fs path else []).toArray⟩, .int .i64 (Lm.recE img fs path)]) ∧ Below w.heap.size w w' := by
  have hb1 : Below w.heap.size w (w.alloc (.cells #[.string path] 9)) := (Below.refl _ w).alloc (Nat.le_refl _) _
  have CK := Lib.hid (check_any v u img fs _ (hm.below hb1) (hf.below hb1))
  have hp1 := Lm.newCells w #[.string path] 9 0 _ rfl
  have hx1 : (w.alloc (.cells #[.string path] 9)).heap[w.heap.size]? = some (.cells #[.string path] 9 (0, 0)) := heap_alloc_new w _
  have HM := Lib.hid hm
  have HF := Lib.hid hf
  have HPS := Lib.hid hps
  have HE := Lib.hid (show Lm.recE img fs path = if Lm.chkR img fs ≠ 0 then Lm.chkR img fs else if fs.all (Lm.isN path) = true then 6 else 0 from rfl)
  obtain ⟨A, c, rfl, hlc, hcm, _⟩ := hm
  obtain ⟨B, d, rfl, hld, hdm, _⟩ := hf
  rw [Lm.strs_length] at *
  have hz1 : (w.alloc (.cells #[.string path] 9)).heap.size = w.heap.size + 1 := by simp
  clear hps
  by_cases hc : Lm.chkR img fs = 0
  · have HC := Lib.hid hc
    have HE1 := Lib.hid (HE.out.trans (if_neg (fun h => h hc)))
    rw [hc] at CK
    clear hc HE
    cases hn : fs.all (Lm.isN path) with
    | true =>
      rw [HE1.out.trans (if_pos hn), if_neg (by decide)]
      clear HE1
      refine (callsIn_wide (n := 6)).1 ?_
      refine callsIn_of_wp_marks Tryd.func11 rfl trivial ?_ rfl
      simp only [Tryd.ntmps11, List.size_toArray, List.length_cons, List.length_nil, Nat.reduceAdd, Nat.reduceSub, Array.replicate_succ, Array.replicate_zero, List.push_toArray, List.append_toArray, List.nil_append, List.cons_append]
      gi_wp2
      refine ⟨trivial, ?_⟩
      refine (callsIn_wide.2 CK.out).mono ?_
      rintro e w2 ⟨rfl, hb2⟩
      have CC := Lib.hid (containsR_any (.slice B fs.length d) fs w.heap.size path w2 (HF.out.below (hb1.trans (hb2.mono (by omega)))) (fun _ => (hb2.cell (p := ⟨w.heap.size, 0, none⟩) (by simp)).trans hp1))
      rw [hn] at CC
      gi_wp2
      refine ⟨trivial, ?_⟩
      refine (callsIn_wide.2 CC.out).mono ?_
      rintro e w3 ⟨rfl, hb3⟩
      gi_wp2
      exact ⟨_, results_tmp2 rfl _ _ _, rfl, hb1.trans ((hb2.mono (by omega)).trans (hb3.mono (by have := hb2.size; omega)))⟩
    | false =>
      rw [HE1.out.trans (if_neg (by rw [hn]; decide)), if_pos rfl]
      clear HE1
      refine (callsIn_wide (n := 6)).1 ?_
      refine callsIn_of_wp_marks Tryd.func11 rfl trivial ?_ rfl
      simp only [Tryd.ntmps11, List.size_toArray, List.length_cons, List.length_nil, Nat.reduceAdd, Nat.reduceSub, Array.replicate_succ, Array.replicate_zero, List.push_toArray, List.append_toArray, List.nil_append, List.cons_append]
      gi_wp2
      refine ⟨trivial, ?_⟩
      refine (callsIn_wide.2 CK.out).mono ?_
      rintro e w2 ⟨rfl, hb2⟩
      have CC := Lib.hid (containsR_any (.slice B fs.length d) fs w.heap.size path w2 (HF.out.below (hb1.trans (hb2.mono (by omega)))) (fun _ => (hb2.cell (p := ⟨w.heap.size, 0, none⟩) (by simp)).trans hp1))
      rw [hn] at CC
      gi_wp2
      refine ⟨trivial, ?_⟩
      refine (callsIn_wide.2 CC.out).mono ?_
      rintro e w3 ⟨rfl, hb3⟩
      have hx3 := (hb3.block w.heap.size (by have := hb2.size; omega)).trans ((hb2.block w.heap.size (by omega)).trans hx1)
      have hbw3 := hb1.trans ((hb2.mono (by omega)).trans (hb3.mono (by have := hb2.size; omega)))
      have hsz3 : w.heap.size + 1 ≤ w3.heap.size := by have := hb2.size; have := hb3.size; omega
      clear hb1 hb2 hb3 hx1 hp1 hz1 CK CC
      gi_wp2
      refine ⟨trivial, ?_⟩
      refine (callsIn_wide.2 (pieces_any _ _ _ _ _ _ _)).mono ?_
      rintro e w4 ⟨rfl, hw4⟩
      have HW4 := Lib.hid hw4
      clear hw4
      gi_wp2
      have hw4 := HW4.out
      obtain ⟨h7, h50, hall⟩ := Lm.chkR_zero HC.out
      have hplen := Lm.piecesR_len (img := img) hall h50
      have hsz4 : w4.heap.size = w3.heap.size + 3 := by rw [hw4]; simp
      have hb34 : Below w3.heap.size w3 w4 := by
        rw [hw4]
        exact (((Below.refl _ w3).alloc (Nat.le_refl _) _).alloc (by simp) _).alloc (by simp <;> omega) _
      have hbw4 : Below w.heap.size w w4 := hbw3.trans (hb34.mono hbw3.size)
      have hx4 : w4.heap[w.heap.size]? = some (.cells #[.string path] 9 (0, 0)) := (hb34.block _ (by omega)).trans hx3
      have hbd : Lm.Bld w4 w3.heap.size [] := by
        rw [hw4]
        refine Lm.BldF.below (Lm.BldF.below (W := w3.alloc (.cells #[.pointer none, .slice none 0 0] 71)) (.inl ⟨Nat.le_refl _, .slice none 0 0, heap_alloc_new w3 _, World.ownsRowF_nil _ _ _ _, by simp [Value.ownBlock]⟩) ((Below.refl _ _).alloc (Nat.le_refl _) _)) ((Below.refl _ _).alloc (Nat.le_refl _) _)
      have hx2 : w4.heap[w3.heap.size + 1]? = some (.cells #[.slice A img.length c] 23 (0, 0)) := by
        rw [hw4]
        refine (Below.heap_alloc _ _ _ (by simp)).trans ?_
        have := heap_alloc_new (w3.alloc (.cells #[.pointer none, .slice none 0 0] 71)) (.cells #[.slice A img.length c] 23)
        simpa using this
      have hx5 : w4.heap[w3.heap.size + 1 + 1]? = some (.cells #[.slice B fs.length d] 24 (0, 0)) := by
        rw [hw4]
        have := heap_alloc_new ((w3.alloc (.cells #[.pointer none, .slice none 0 0] 71)).alloc (.cells #[.slice A img.length c] 23)) (.cells #[.slice B fs.length d] 24)
        simpa using this
      have hI0 : Lm.RI w path w.heap.size w3.heap.size [] w4 := ⟨hbw4, by omega, hx4, hbd⟩
      have hbb : w.heap.size ≤ w3.heap.size := by omega
      have hpb : w.heap.size < w3.heap.size := by omega
      clear hbd hb34 hx4 hx3 hbw3
      generalize hmb : w3.heap.size = bb at *
      have hST := pieces_stops 5 (by omega) w.heap.size (bb + 1) (bb + 1 + 1) _ _ img fs w4 hbw4.size hx2 hx5 (fun W' h => HM.out.below (hbw4.trans h)) (fun W' h => HF.out.below (hbw4.trans h)) hall h50 h7 HPS.out
      refine Lm.rangeOn rfl (by omega) (gf := 49) (lb := #[.pointer (some ⟨bb + 1 + 1, 0, none⟩), .pointer (some ⟨bb + 1, 0, none⟩)]) (by simp [Act.eval]) trivial (enters_of Tryd.func49 (by kernel_rfl) rfl)
        hST (Below.refl _ _) (fun _ => rfl) Lm.Kp.trans (Lm.Kp.putObj hbw4.size) (Lm.RI w path w.heap.size bb) (Lm.RM w path w.heap.size bb) ?_ ?_ hI0 ?_ ?_ ?_
      · rw [hsz4]; exact Lm.RI.own w path _ bb hbb hpb
      · rw [hsz4]; exact fun pre x => Lm.RM.own w path _ bb hbb hpb _ pre x
      · rintro l pre ⟨p, hp⟩ W hI hlt
        obtain ⟨pa, off, ln, da, ok⟩ := p
        have hbx := heap_alloc_new W (.cells #[.string pa, .int .i64 off, .int .i64 ln, .string da, .bool ok] 61)
        have hIa := (Lm.RI.own w path w.heap.size bb hbb hpb).alloc (.cells #[.string pa, .int .i64 off, .int .i64 ln, .string da, .bool ok] 61) hI
        have hK := Lm.Kp.alloc (n₀ := w.heap.size) (B := w4.heap.size) W (.cells #[.string pa, .int .i64 off, .int .i64 ln, .string da, .bool ok] 61) (Nat.le_trans hbb (by have := hI.size; omega))
        dsimp only [Lm.pV]
        gi_wp2
        exact ⟨(KeepsOthers.alloc W _).from _, by first | exact hK | (rw [hsz4] at hK; exact hK) | (rw [← hsz4]; exact hK), hIa, W.heap.size, hI.size, rfl, hbx⟩
      · rintro l pre ⟨⟨pa, off, ln, da, ok⟩, hp⟩ b W ⟨hI, g, hgB, rfl, hx⟩ hlt
        dsimp only [Lm.pV]
        have c0 : W.cell? ⟨g, 0, none⟩ = some (.string pa) := Lm.box_cell hx 0
        have c2 : W.cell? ⟨g, 2, none⟩ = some (.int .i64 ln) := Lm.box_cell hx 2
        have c3 : W.cell? ⟨g, 3, none⟩ = some (.string da) := Lm.box_cell hx 3
        have c4 : W.cell? ⟨g, 4, none⟩ = some (.bool ok) := Lm.box_cell hx 4
        have cp : W.cell? ⟨w.heap.size, 0, none⟩ = some (.string path) := Lm.box_cell hI.box 0
        obtain ⟨p1, p2, p3, p4, p5, p6⟩ := (Lm.okP_iff _).1 hp
        simp only [] at p1 p2 p3 p4 p5 p6
        have hrl := Lm.recB_len (path := path) (pre.map (·.1)) (by
          rw [List.all_eq_true]
          intro p hp
          obtain ⟨y, _, rfl⟩ := List.mem_map.1 hp
          exact y.2)
        rw [List.length_map] at hrl
        have HSN := Lib.hid (show Lm.recB path ((pre ++ [(⟨⟨pa, off, ln, da, ok⟩, hp⟩ : Lm.PB)]).map (·.1)) = Lm.recB path (pre.map (·.1)) ++ Lm.pieceB path ⟨pa, off, ln, da, ok⟩ by rw [List.map_append, List.map_cons, List.map_nil, Lm.recB_snoc])
        have HPB := Lib.hid (show Lm.pieceB path ⟨pa, off, ln, da, ok⟩ = if pa = path then (if ok = true then da.data.toList else List.replicate ln.toNat 0) else [] from rfl)
        have HI := Lib.hid hI
        have hbW : bb ≤ W.heap.size := by have := hI.size; omega
        clear hx hI
        by_cases hpp : pa.toList = path.toList
        · have e1 : (!pa.toList == path.toList) = false := by rw [hpp]; simp
          have hpe : pa = path := by
            have h := hpp
            rw [Lib.toList_data, Lib.toList_data] at h
            cases pa; cases path
            simp at h
            rw [h]
          cases ok with
          | true =>
            have HP := Lib.hid (HPB.out.trans ((if_pos hpe).trans (if_pos rfl)))
            have CW := Lib.hid (writeB bb _ da W HI.out.bld (by omega) hbW)
            clear hpe HPB
            gi_wp2
            refine ⟨trivial, ?_⟩
            refine (CallsIn.inRound l (callsIn_wide.2 CW.out)).mono ?_
            rintro e W1 ⟨rfl, h1, h2, h3⟩
            gi_wp2
            have hfin := Lm.RI.put (x := ⟨⟨pa, off, ln, da, true⟩, hp⟩) hbb hpb HI.out h2 h3 (by rw [HSN.out, HP.out]; exact h1)
            first | exact hfin | (rw [hsz4]; exact hfin) | (rw [← hsz4] at hfin; exact hfin)
          | false =>
            have HP := Lib.hid (HPB.out.trans ((if_pos hpe).trans (if_neg (by decide))))
            have CZ := Lib.hid (zerosB ln W p4 p5)
            clear hpe HPB
            gi_wp2
            refine ⟨trivial, ?_⟩
            refine (CallsIn.inRound l (callsIn_wide.2 CZ.out)).mono ?_
            rintro e W0 ⟨rfl, h0⟩
            have CW := Lib.hid (writeB bb _ ⟨(List.replicate ln.toNat 0).toArray⟩ W0 (Lm.BldF.below HI.out.bld h0) (by
              have : (⟨(List.replicate ln.toNat (0 : UInt8)).toArray⟩ : ByteArray).size = ln.toNat := by simp [ByteArray.size]
              rw [this]
              omega) (Nat.le_trans hbW h0.size))
            gi_wp2
            refine ⟨trivial, ?_⟩
            refine (CallsIn.inRound l (callsIn_wide.2 CW.out)).mono ?_
            rintro e W1 ⟨rfl, h1, h2, h3⟩
            gi_wp2
            have hfin := Lm.RI.put (x := ⟨⟨pa, off, ln, da, false⟩, hp⟩) hbb hpb HI.out ((h0.mono hbW).trans h2) (fun k o hk hb ho => h3 k o ((h0.block k (Array.getElem?_eq_some_iff.1 hk).1).trans hk) hb ho) (by rw [HSN.out, HP.out]; exact h1)
            first | exact hfin | (rw [hsz4]; exact hfin) | (rw [← hsz4] at hfin; exact hfin)
        · have e1 : (!pa.toList == path.toList) = true := by simpa using hpp
          have HP := Lib.hid (HPB.out.trans (if_neg (fun e => hpp (by rw [e]))))
          clear HPB
          gi_wp2
          have hfin := Lm.RI.put (x := ⟨⟨pa, off, ln, da, ok⟩, hp⟩) hbb hpb HI.out (Below.refl _ _) (Lib.OthersKept.refl _ _ _) (by rw [HSN.out, HP.out, List.append_nil]; exact HI.out.bld)
          first | exact hfin | (rw [hsz4]; exact hfin) | (rw [← hsz4] at hfin; exact hfin)
      · rintro D ys W hD hys hI hK
        have hDW : D < W.heap.size := (Array.getElem?_eq_some_iff.1 hK).1
        have hbl := hI.bld
        rw [hys] at hbl
        have CS := Lib.hid (Tryd.Builder_String_any_k bb bb _ W hbl (by have := hI.size; omega))
        have HREC := Lib.hid (show Lm.recR img fs path = Lm.recB path (Lm.piecesR img fs) from rfl)
        have HI := Lib.hid hI
        have HK := Lib.hid hK
        clear hbl hys hST hI0 hx2 hx5 hI hK
        gi_wp2
        refine ⟨trivial, ?_⟩
        refine (callsIn_wide.2 CS.out).mono ?_
        rintro e W1 ⟨rfl, _, h2, h3⟩
        gi_wp2
        have hK' := h3 D _ HK.out (fun e => by have : D = bb := Option.some.inj e; omega) (fun c fz e => by cases e)
        refine ⟨by simp, .inl ⟨_, _, rfl, run_takeDeferred hK', ?_⟩⟩
        refine ⟨_, results_tmp2 rfl _ _ _, ?_, ?_⟩
        · rw [HREC.out]
          rfl
        · exact (HI.out.bel.trans (h2.mono hbb)).grown (grownBy_putObj' W1 D (.deferred none)) (by have := HI.out.bel.size; have := h2.size; omega) (fun k e => by cases e; omega)
  · have HE1 := Lib.hid (HE.out.trans (if_pos hc))
    have hne : (Lm.chkR img fs == 0) = false := by rw [beq_eq_false_iff_ne]; exact hc
    rw [HE1.out, if_neg hc]
    clear hc HE HE1
    generalize Lm.chkR img fs = e0 at *
    refine (callsIn_wide (n := 6)).1 ?_
    refine callsIn_of_wp_marks Tryd.func11 rfl trivial ?_ rfl
    simp only [Tryd.ntmps11, List.size_toArray, List.length_cons, List.length_nil, Nat.reduceAdd, Nat.reduceSub, Array.replicate_succ, Array.replicate_zero, List.push_toArray, List.append_toArray, List.nil_append, List.cons_append]
    gi_wp2
    refine ⟨trivial, ?_⟩
    refine (callsIn_wide.2 CK.out).mono ?_
    rintro e w2 ⟨rfl, hb2⟩
    gi_wp2
    exact ⟨_, results_tmp2 rfl _ _ _, rfl, hb1.trans (hb2.mono (by omega))⟩
end Go.Proofs.YtlhechlbmbjffaaDoor
