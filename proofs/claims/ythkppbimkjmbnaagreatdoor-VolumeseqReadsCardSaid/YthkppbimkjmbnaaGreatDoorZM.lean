/-
  The walk through udftag.Faults.
-/
import Derived.Test.YthkppbimkjmbnaaGreatDoorZL
import Derived.Test.YthkppbimkjmbnaaGreatDoorZE
namespace Go.Proofs.YthkppbimkjmbnaaGreatDoor
open Go.RowKit
open Vs (bs by_)
/-- A callee's contract in a later world, where the world is drawn from. -/
theorem Calls.later_drewn {P : Program} {f : FuncId} {args : Array Value} {B : Nat} {w : World} {x : Later B w} {v : Value}
    (h : Calls P f args x.to fun e w' => e = .returned v ∧ ∃ n, w' = x.to.drewN n) : Calls P f args x.to fun e w'' => e = .returned v ∧ ∃ y : Later B w, w'' = y.to :=
  h.mono fun _ _ ⟨he, n, hb⟩ => ⟨he, ⟨_, Kit.Below.drewN x.bel n⟩, hb⟩
namespace Vs
open Pm (at_)
/-- The faults, as they are added. -/
theorem faults_add {s : List UInt8} {loc : Int} (h : 16 ≤ s.length) (c2 c3 c4 c5 c6 : Bool) (h2 : c2 = true ↔ Cs.byt s 4 ≠ sumT s) (h3 : c3 = true ↔ ¬ (at_ s 2 2 = 2 ∨ at_ s 2 2 = 3)) (h4 : c4 = true ↔ s.length - 16 < at_ s 10 2)
    (h5 : c4 = false → (c5 = true ↔ at_ s 8 2 ≠ crcR (sl s 16 (at_ s 10 2)))) (h6 : c6 = true ↔ (at_ s 12 4 : Int) ≠ loc) :
    faultsR s loc = addF (if c4 = true then addF (addF (addF [] c2 2) c3 3) c4 4 else addF (addF (addF (addF [] c2 2) c3 3) c4 4) c5 5) c6 6 := by
  unfold faultsR
  rw [if_neg (by omega)]
  have e2 : (if Cs.byt s 4 = sumT s then ([] : List Int) else [2]) = if c2 = true then [2] else [] := by
    cases c2 with
    | true => exact if_neg (h2.1 rfl)
    | false => exact if_pos (Classical.not_not.1 fun g => by have := h2.2 g; cases this)
  have e3 : (if at_ s 2 2 = 2 ∨ at_ s 2 2 = 3 then ([] : List Int) else [3]) = if c3 = true then [3] else [] := by
    cases c3 with
    | true => exact if_neg (h3.1 rfl)
    | false => exact if_pos (Classical.not_not.1 fun g => by have := h3.2 g; cases this)
  have e6 : (if (at_ s 12 4 : Int) = loc then ([] : List Int) else [6]) = if c6 = true then [6] else [] := by
    cases c6 with
    | true => exact if_neg (h6.1 rfl)
    | false => exact if_pos (Classical.not_not.1 fun g => by have := h6.2 g; cases this)
  rw [e2, e3, e6]
  cases c4 with
  | true =>
    rw [if_pos (h4.1 rfl), if_pos rfl]
    simp [addF]
  | false =>
    have e5 : (if at_ s 8 2 = crcR (sl s 16 (at_ s 10 2)) then ([] : List Int) else [5]) = if c5 = true then [5] else [] := by
      cases c5 with
      | true => exact if_neg ((h5 rfl).1 rfl)
      | false => exact if_pos (Classical.not_not.1 fun g => by have := (h5 rfl).2 g; cases this)
    rw [if_neg (show ¬ (s.length - 16 < at_ s 10 2) from fun g => by have := h4.2 g; cases this), e5, if_neg (show ¬ (false = true) from by decide)]
    simp [addF]
end Vs

set_option maxHeartbeats 6400000 in
set_option maxRecDepth 100000 in
/-- udftag.Faults. -/
theorem faults_any (s : ByteArray) (loc : Int) (w : World) (hs : s.size ≤ 9223372036854775807) :
    Calls Tryz.prog 94 #[.string s, .int .i64 loc] w fun e w' => ∃ v, e = .returned v ∧ w'.ownsRow w.heap.size 3 1 v (Vs.faultsR (by_ s) loc).length (Kit.izs (Vs.faultsR (by_ s) loc)) ∧ Below w.heap.size w w' := by
  by_cases hl : s.size < 16
  · have HR := Lib.hid (show Vs.faultsR (by_ s) loc = [1] from if_pos (by rw [Vs.by_len]; exact hl))
    rw [HR.out]
    go_enter Tryz.func94, Tryz.ntmps94
    go_wp2_with fail
    go_ret
    exact ⟨_, rfl, Kit.own_new w _ [.int .i64 1] (by decide), (Below.refl _ _).alloc (Nat.le_refl _) _⟩
  have hl16 : 16 ≤ s.size := by omega
  have CV := Lib.hid (fun W => values_any s hl16 hs W)
  have CR2 := Lib.hid (fun W => tRead_any s 2 2 2 2 rfl rfl (.inl rfl) (by omega) hs W)
  have CR8 := Lib.hid (fun W => tRead_any s 8 2 8 2 rfl rfl (.inl rfl) (by omega) hs W)
  have CS := Lib.hid (fun W => sum_any s hl16 hs W)
  have hbl := Vs.by_len s
  have hT4 := Kit.byt_get s 4 (by omega)
  obtain ⟨a, ha⟩ : ∃ a, Pm.at_ (by_ s) 0 2 = a := ⟨_, rfl⟩
  obtain ⟨b, hb⟩ : ∃ b, Pm.at_ (by_ s) 6 2 = b := ⟨_, rfl⟩
  obtain ⟨n, hn⟩ : ∃ n, Pm.at_ (by_ s) 10 2 = n := ⟨_, rfl⟩
  obtain ⟨d, hd⟩ : ∃ d, Pm.at_ (by_ s) 12 4 = d := ⟨_, rfl⟩
  obtain ⟨ve, hve⟩ : ∃ ve, Pm.at_ (by_ s) 2 2 = ve := ⟨_, rfl⟩
  obtain ⟨cr, hcr⟩ : ∃ cr, Pm.at_ (by_ s) 8 2 = cr := ⟨_, rfl⟩
  obtain ⟨T, hT⟩ : ∃ T, Vs.sumT (by_ s) = T := ⟨_, rfl⟩
  have hnb : n < 65536 := by have := Pm.at_lt (by_ s) 10 2; omega
  rw [ha, hb, hn, hd] at CV
  rw [hve] at CR2
  rw [hcr] at CR8
  rw [hT] at CS
  obtain ⟨C2, hC2⟩ : ∃ C2 : Bool, (((s[4]'(by omega)).toNat : Int) != (T : Int)) = C2 := ⟨_, rfl⟩
  obtain ⟨C6, hC6⟩ : ∃ C6 : Bool, ((d : Int) != loc) = C6 := ⟨_, rfl⟩
  have HB0 := Lib.hid ((Below.refl w.heap.size w).alloc (Nat.le_refl _) (.cells #[.slice none 0 0] 34))
  go_enter Tryz.func94, Tryz.ntmps94
  go_wp2_with fail
  with_reducible refine (CV.out _).mono ?_
  rintro e w2 ⟨rfl, hb2⟩
  have hg2 := hb2.size
  rw [World.size_alloc] at hg2
  have hbox := (hb2.block w.heap.size (by simp)).trans (heap_alloc_new w (.cells #[.slice none 0 0] 34))
  have HFS := Lib.hid (show Vs.FS w w.heap.size w2.heap.size a b n d [] (w2.alloc (.cells #[.int .i64 a, .int .i64 b, .int .i64 n, .int .i64 d] 104)) from
    ⟨⟨_, (((Below.refl w2.heap.size w2).alloc (Nat.le_refl _) _).block _ (by omega)).trans hbox, World.ownsRow_nil _ _ _ _⟩, heap_alloc_new _ _, (HB0.out.trans (hb2.mono (by simp))).alloc (by omega) _, Nat.le_refl _, by omega⟩)
  clear hb2 hbox HB0
  go_wp2_with fail
  with_reducible refine (CR2.out _).mono ?_
  rintro e w3 ⟨rfl, hw3⟩
  subst hw3
  go_wp2_with fail
  generalize w2.alloc (.cells #[.int .i64 a, .int .i64 b, .int .i64 n, .int .i64 d] 104) = W1 at *
  generalize w2.heap.size = g at *
  clear hg2
  refine Rt.tail (C := fun w' => ∃ x : Later W1.heap.size W1, w' = x.to) 6 _ rfl (by kernel_rfl) (by kernel_rfl) (by kernel_rfl) rfl (by kernel_rfl) ⟨⟨W1.drewN 1, Kit.below_drewN 1⟩, rfl⟩ ?_
  simp only [List.take_succ_cons, List.take_zero]
  repeat (any_goals (first | go_big_quiet_skip | (go_big_quiet_want; go_big_quiet_op; first | go_big_quiet_on | (apply Exists.intro; refine ⟨fun _ => ?_, ?_⟩; (first | (with_reducible exact Calls.later_drewn (CS.out _))); go_big_quiet_on))))
  refine wpQuiet_nil ?_
  intro wq hw'
  obtain ⟨⟨wz, hbq⟩, hw''⟩ := hw'
  subst hw''
  have HFQ := Lib.hid (HFS.out.below hbq)
  clear hbq HFS
  rw [hT4] at hC2
  rw [hC2]
  have HC2 := Lib.hid hC2
  have HC6 := Lib.hid hC6
  clear hC2
  have C8 := Lib.hid (fun W l (h : Vs.FS w w.heap.size g a b n d l W) hl f t => add_any w W w.heap.size g a b n d l h hl f t)
  go_wp2_with fail
  refine (C8.out _ _ HFQ.out (by decide) 2 C2).mono ?_
  rintro e w4 ⟨rfl, hF4⟩
  have HF4 := Lib.hid hF4
  clear hF4 HFQ
  have HAN := Lib.hid hn
  have HAV := Lib.hid hve
  have HAC := Lib.hid hcr
  have HAD := Lib.hid hd
  have HAT := Lib.hid hT
  clear hn hve hcr hd hT ha hb
  have fin : ∀ (c3 c4 c5 : Bool), (c3 = true ↔ ¬ (ve = 2 ∨ ve = 3)) → (c4 = true ↔ s.size - 16 < n) → (c4 = false → (c5 = true ↔ cr ≠ Vs.crcR (Vs.sl (by_ s) 16 n))) →
      Vs.faultsR (by_ s) loc = Vs.addF (if c4 = true then Vs.addF (Vs.addF (Vs.addF [] C2 2) c3 3) c4 4 else Vs.addF (Vs.addF (Vs.addF (Vs.addF [] C2 2) c3 3) c4 4) c5 5) C6 6 := fun c3 c4 c5 k3 k4 k5 => by
    refine Vs.faults_add (by omega) C2 c3 c4 c5 C6 ?_ ?_ ?_ ?_ ?_
    · rw [HAT.out, ← HC2.out, bne_iff_ne]
      exact ⟨fun h e => h (by rw [show Cs.byt s.data.toList 4 = T from e]), fun h e => h (by have e' : ((Cs.byt (by_ s) 4 : Nat) : Int) = T := e; omega)⟩
    · rw [HAV.out]; exact k3
    · rw [HAN.out, hbl]; exact k4
    · rw [HAN.out, HAC.out]; exact k5
    · rw [HAD.out, ← HC6.out, bne_iff_ne]
  have FIN := Lib.hid fin
  clear fin HC2 HAT HAV HAN HAC HAD
  have la : ∀ l t f, (Vs.addF l t f).length ≤ l.length + 1 := fun l t f => by unfold Vs.addF; rw [List.length_append]; split <;> simp
  have LA := Lib.hid la
  clear la
  rcases (show ve = 2 ∨ ve = 3 ∨ (ve ≠ 2 ∧ ve ≠ 3) by omega) with hv | hv | ⟨hv, hv'⟩
  case' inl =>
    have v2 : ((ve : Int) != 2) = false := by rw [hv]; rfl
    obtain ⟨C3, hC3, k3⟩ : ∃ C3 : Bool, C3 = false ∧ (C3 = true ↔ ¬ (ve = 2 ∨ ve = 3)) := ⟨false, rfl, ⟨fun h => (by cases h), fun h => absurd (.inl hv) h⟩⟩
  case' inr.inl =>
    have v2 : ((ve : Int) != 2) = true := by rw [hv]; rfl
    have v3 : ((ve : Int) != 3) = false := by rw [hv]; rfl
    obtain ⟨C3, hC3, k3⟩ : ∃ C3 : Bool, C3 = false ∧ (C3 = true ↔ ¬ (ve = 2 ∨ ve = 3)) := ⟨false, rfl, ⟨fun h => (by cases h), fun h => absurd (.inr hv) h⟩⟩
  case' inr.inr =>
    have v2 : ((ve : Int) != 2) = true := by rw [bne_iff_ne]; omega
    have v3 : ((ve : Int) != 3) = true := by rw [bne_iff_ne]; omega
    obtain ⟨C3, hC3, k3⟩ : ∃ C3 : Bool, C3 = true ∧ (C3 = true ↔ ¬ (ve = 2 ∨ ve = 3)) := ⟨true, rfl, ⟨fun _ h => by omega, fun _ => rfl⟩⟩
  all_goals
    have K3 := Lib.hid k3
    have HC3 := Lib.hid hC3
    clear k3 hC3
    go_wp2_with fail
    rw [← HC3.out]
    refine (C8.out _ _ HF4.out (by have := LA.out [] C2 2; simp at this; omega) 3 C3).mono ?_
    rintro e w5 ⟨rfl, hF5⟩
    have hg5 := hF5.lt
    have ht5 := cell_of_row _ _ 2 _ _ _ hF5.tag
    simp only [List.getElem?_toArray, List.getElem?_cons_zero, List.getElem?_cons_succ] at ht5
    have HF5 := Lib.hid hF5
    clear hF5 HF4
    have hlen3 := Nat.le_trans (LA.out (Vs.addF [] C2 2) C3 3) (Nat.add_le_add_right (LA.out [] C2 2) 1)
    simp only [List.length_nil, Nat.zero_add] at hlen3
    have HL3 := Lib.hid hlen3
    clear hlen3
    try clear v2
    try clear v3
    by_cases h4 : s.size - 16 < n
    · have d4 : decide ((s.size : Int) - 16 < (n : Int)) = true := decide_eq_true (by omega)
      have HR := Lib.hid (FIN.out C3 true true K3.out ⟨fun _ => h4, fun _ => rfl⟩ (fun h => by cases h))
      rw [if_pos rfl] at HR
      clear FIN h4
      go_wp2_with fail
      refine (C8.out _ _ HF5.out (by have := HL3.out; omega) 4 true).mono ?_
      rintro e w6 ⟨rfl, hF6⟩
      have hg6 := hF6.lt
      have ht6 := cell_of_row _ _ 3 _ _ _ hF6.tag
      simp only [List.getElem?_toArray, List.getElem?_cons_zero, List.getElem?_cons_succ] at ht6
      have HF6 := Lib.hid hF6
      have hl6 := LA.out (Vs.addF (Vs.addF [] C2 2) C3 3) true 4
      clear hF6 HF5 ht5 hg5
      go_wp2_with fail
      try rw [HC6.out]
      refine (C8.out _ _ HF6.out (by have := HL3.out; omega) 6 C6).mono ?_
      rintro e w7 ⟨rfl, hF7⟩
      obtain ⟨v, hv7, ho7⟩ := hF7.box
      have hc7 := cell_of_row _ _ 0 _ _ _ hv7
      simp only [List.getElem?_toArray, List.getElem?_cons_zero] at hc7
      have HO7 := Lib.hid ho7
      have HF7 := Lib.hid hF7
      clear hF7 HF6 ht6 hg6 ho7 hv7 hl6
      go_wp2_with fail
      go_ret
      rw [HR.out]
      exact ⟨v, rfl, Kit.own_base HO7.out (by have := HF7.out.mid; have := HF7.out.lo; omega), HF7.out.bel⟩
    · have d4 : decide ((s.size : Int) - 16 < (n : Int)) = false := decide_eq_false (by omega)
      have hn16 : 16 + n ≤ s.size := by omega
      have hn16' : (16 : Int) + (n : Int) ≤ (s.size : Int) := by omega
      have CC := Lib.hid (fun W => crc16_any (s.extract 16 (16 + n)) W (by rw [ByteArray.size_extract]; omega))
      have HX := Lib.hid (show Vs.crcR (s.extract 16 (16 + n)).data.toList = Vs.crcR (Vs.sl (by_ s) 16 n) by rw [Vs.bs_ext, Nat.add_sub_cancel_left]; rfl)
      rw [HX.out] at CC
      have hcl := Vs.crcR_lt (Vs.sl (by_ s) 16 n)
      obtain ⟨cc, hcc⟩ : ∃ cc, Vs.crcR (Vs.sl (by_ s) 16 n) = cc := ⟨_, rfl⟩
      rw [hcc] at CC hcl
      obtain ⟨C5, hC5⟩ : ∃ C5 : Bool, ((cr : Int) != (cc : Int)) = C5 := ⟨_, rfl⟩
      have HR := Lib.hid (FIN.out C3 false C5 K3.out ⟨fun h => (by cases h), fun h => absurd h h4⟩ (fun _ => by rw [hcc, ← hC5, bne_iff_ne]; exact ⟨fun h e => h (by rw [e]), fun h e => h (by omega)⟩))
      rw [if_neg (show ¬ (false = true) from by decide)] at HR
      have HC5 := Lib.hid hC5
      clear FIN h4 hcc HX hC5
      go_wp2_with fail
      refine (C8.out _ _ HF5.out (by have := HL3.out; omega) 4 false).mono ?_
      rintro e w6 ⟨rfl, hF6⟩
      have hg6 := hF6.lt
      have ht6 := cell_of_row _ _ 2 _ _ _ hF6.tag
      simp only [List.getElem?_toArray, List.getElem?_cons_zero, List.getElem?_cons_succ] at ht6
      have HF6 := Lib.hid hF6
      have hl6 := LA.out (Vs.addF (Vs.addF [] C2 2) C3 3) false 4
      have y2 := fun x : Later w6.heap.size w6 => later_cell x hg6 ht6
      clear hF6 HF5 ht5 hg5
      go_wp2_with fail
      refine Rt.tail (C := fun w' => ∃ x : Later w6.heap.size w6, w' = x.to) 11 _ rfl (by kernel_rfl) (by kernel_rfl) (by kernel_rfl) rfl (by kernel_rfl) ⟨⟨w6.drewN 1, Kit.below_drewN 1⟩, rfl⟩ ?_
      simp only [List.take_succ_cons, List.take_zero]
      repeat (any_goals (first | go_big_quiet_skip | (go_big_quiet_want; go_big_quiet_op; first | go_big_quiet_on | (apply Exists.intro; refine ⟨fun _ => ?_, ?_⟩; (first | (with_reducible exact Calls.later_same (CR8.out _)) | (with_reducible refine Calls.later_of ?_ (CC.out _); exact Nat.le_refl _)); go_big_quiet_on))))
      refine wpQuiet_nil ?_
      intro wq hw'
      obtain ⟨⟨wz, hbq⟩, hw''⟩ := hw'
      subst hw''
      have HFQ := Lib.hid (HF6.out.below hbq)
      clear hbq HF6 y2
      try rw [HC5.out]
      go_wp2_with fail
      try rw [HC5.out]
      refine (C8.out _ _ HFQ.out (by have := HL3.out; omega) 5 C5).mono ?_
      rintro e w7 ⟨rfl, hF7⟩
      have hg7 := hF7.lt
      have ht7 := cell_of_row _ _ 3 _ _ _ hF7.tag
      simp only [List.getElem?_toArray, List.getElem?_cons_zero, List.getElem?_cons_succ] at ht7
      have HF7 := Lib.hid hF7
      have hl7 := LA.out (Vs.addF (Vs.addF (Vs.addF [] C2 2) C3 3) false 4) C5 5
      clear hF7 HFQ
      go_wp2_with fail
      try rw [HC6.out]
      refine (C8.out _ _ HF7.out (by have := HL3.out; omega) 6 C6).mono ?_
      rintro e w8 ⟨rfl, hF8⟩
      obtain ⟨v, hv7, ho7⟩ := hF8.box
      have hc7 := cell_of_row _ _ 0 _ _ _ hv7
      simp only [List.getElem?_toArray, List.getElem?_cons_zero] at hc7
      have HO7 := Lib.hid ho7
      have HF8 := Lib.hid hF8
      clear hF8 HF7 ht7 hg7 ho7 hv7 hl7 hl6
      go_wp2_with fail
      go_ret
      rw [HR.out]
      exact ⟨v, rfl, Kit.own_base HO7.out (by have := HF8.out.mid; have := HF8.out.lo; omega), HF8.out.bel⟩
end Go.Proofs.YthkppbimkjmbnaaGreatDoor
