/-
  The walk through the reference's Kind.
-/
import Derived.Test.YtlcdhlfkffkifaaGreatDoorZJ
import Derived.Test.YtlcdhlfkffkifaaGreatDoorZL
import Derived.Test.YtlcdhlfkffkifaaGreatDoorZA
import Derived.Test.YtlcdhlfkffkifaaGreatDoorZH
namespace Go.Proofs.YtlcdhlfkffkifaaGreatDoor
open Go.RowKit
namespace Pm
theorem kindK_long {ks : List Int} (h : ks.length = 0 ∨ 2 < ks.length) : kindK ks = -1 := by
  unfold kindK
  rw [if_neg (by rintro rfl; simp at h), if_neg (by rintro rfl; simp at h), if_neg (by rintro rfl; simp at h), if_neg (by rintro rfl; simp at h)]
theorem kindK_one (k : Int) : kindK [k] = if k = 0 then 0 else if k = 2 then 2 else -1 := by
  unfold kindK
  by_cases h0 : k = 0
  · subst h0; rfl
  · rw [if_neg (by simpa using h0), if_neg (by simp), if_neg h0]
    by_cases h2 : k = 2
    · subst h2; rfl
    · rw [if_neg (by simpa using h2), if_neg (by simp), if_neg h2]
theorem kindK_two (k m : Int) : kindK [k, m] = if k = 0 ∧ m = 1 then 1 else if k = 0 ∧ m = 3 then 3 else -1 := by
  unfold kindK
  rw [if_neg (by simp)]
  by_cases h1 : k = 0 ∧ m = 1
  · rw [if_pos (by simpa using h1), if_pos h1]
  · rw [if_neg (by simpa using h1), if_neg h1, if_neg (by simp)]
    by_cases h3 : k = 0 ∧ m = 3
    · rw [if_pos (by simpa using h3), if_pos h3]
    · rw [if_neg (by simpa using h3), if_neg h3]
end Pm

set_option maxHeartbeats 3200000 in
set_option maxRecDepth 100000 in
/-- masterdiscref37.Kind of a list that is not valid, or of another length. -/
theorem rKind_no (v : Value) (l : List Pm.M) (T : Nat → Value) (w : World) (hm : Pm.MapsAt w v l T) (hf : Pm.Few l) (h : Pm.all l = false ∨ Pm.all l = true ∧ (l.length = 0 ∨ 2 < l.length)) :
    Calls Tryz.prog 18 #[v] w fun e w' => e = .returned (.int .i64 (-1)) ∧ Below w.heap.size w w' := by
  have CA := Lib.hid (fun W h => rValid_any v l T W h hf)
  have HM := Lib.hid hm
  obtain ⟨A, c, rfl, hlc, hcm, _⟩ := hm.row
  have h8 := hf.1
  clear hm hf hlc hcm
  rcases h with h | ⟨h, h0 | h2⟩
  · rw [h] at CA
    clear h
    go_enter Tryz.func18, Tryz.ntmps18
    go_wp2_with fail
    refine wp_region_later w.heap.size (by kernel_rfl) (by kernel_rfl) ?_
    repeat (any_goals (first | go_big_quiet_skip | (go_big_quiet_want; go_big_quiet_op; first | go_big_quiet_on | (apply Exists.intro; refine ⟨fun x => ?_, ?_⟩; (go_at_call 29; exact Calls.later_of (Nat.le_refl _) (CA.out _ (HM.out.below (Later.bel _)))); go_big_quiet_on))))
    refine wpQuiet_nil ?_
    intro wq hw'
    obtain ⟨⟨wz, hbq⟩, hw''⟩ := hw'
    subst hw''
    go_wp2_with fail
    go_ret
    exact ⟨rfl, hbq⟩
  · rw [h] at CA
    have d1 : decide ((l.length : Int) < 1) = true := decide_eq_true (by omega)
    clear h h0
    go_enter Tryz.func18, Tryz.ntmps18
    go_wp2_with fail
    refine wp_region_later w.heap.size (by kernel_rfl) (by kernel_rfl) ?_
    repeat (any_goals (first | go_big_quiet_skip | (go_big_quiet_want; go_big_quiet_op; first | go_big_quiet_on | (apply Exists.intro; refine ⟨fun x => ?_, ?_⟩; (go_at_call 29; exact Calls.later_of (Nat.le_refl _) (CA.out _ (HM.out.below (Later.bel _)))); go_big_quiet_on))))
    refine wpQuiet_nil ?_
    intro wq hw'
    obtain ⟨⟨wz, hbq⟩, hw''⟩ := hw'
    subst hw''
    go_wp2_with fail
    go_ret
    exact ⟨rfl, hbq⟩
  · rw [h] at CA
    have d1 : decide ((l.length : Int) < 1) = false := decide_eq_false (by omega)
    have d2 : decide (2 < (l.length : Int)) = true := decide_eq_true (by omega)
    clear h h2
    go_enter Tryz.func18, Tryz.ntmps18
    go_wp2_with fail
    refine wp_region_later w.heap.size (by kernel_rfl) (by kernel_rfl) ?_
    repeat (any_goals (first | go_big_quiet_skip | (go_big_quiet_want; go_big_quiet_op; first | go_big_quiet_on | (apply Exists.intro; refine ⟨fun x => ?_, ?_⟩; (go_at_call 29; exact Calls.later_of (Nat.le_refl _) (CA.out _ (HM.out.below (Later.bel _)))); go_big_quiet_on))))
    refine wpQuiet_nil ?_
    intro wq hw'
    obtain ⟨⟨wz, hbq⟩, hw''⟩ := hw'
    subst hw''
    go_wp2_with fail
    go_ret
    exact ⟨rfl, hbq⟩
set_option maxHeartbeats 3200000 in
set_option maxRecDepth 100000 in
/-- masterdiscref37.Kind of one valid map. -/
theorem rKind_one (v : Value) (x : Pm.M) (T : Nat → Value) (w : World) (hm : Pm.MapsAt w v [x] T) (hf : Pm.Few [x]) (h : Pm.all [x] = true) :
    Calls Tryz.prog 18 #[v] w fun e w' => e = .returned (.int .i64 (if x.kind = 0 then 0 else if x.kind = 2 then 2 else -1)) ∧ Below w.heap.size w w' := by
  have CA := Lib.hid (fun W h => rValid_any v [x] T W h hf)
  have HM := Lib.hid hm
  obtain ⟨A, c, rfl, hlc, hcm, hcells⟩ := hm.row
  obtain ⟨b, o, rfl, hbl, hc⟩ := hcells (by simp)
  have hc0 := hc 0 (by simp) 0 _ rfl
  have hc1 := hc 0 (by simp) 1 _ rfl
  simp only [List.getD_cons_zero, Nat.zero_mul, Nat.add_zero] at hc0 hc1
  rw [h] at CA
  obtain ⟨k, nm, ts, f, mi, bm⟩ := x
  simp only [List.length_cons, List.length_nil, Nat.zero_add] at *
  have hcell : ∀ x : Later w.heap.size w, x.to.cell? ⟨b, o + 1, none⟩ = some (.int .i64 nm) := fun x => later_cell x hbl hc1
  have HC0 := Lib.hid hc0
  clear hm hf hcells hc h hc0 hc1
  generalize hR : (if k = 0 then (0 : Int) else if k = 2 then 2 else -1) = R
  have HR := Lib.hid hR
  clear hR
  go_enter Tryz.func18, Tryz.ntmps18
  go_wp2_with fail
  refine wp_region_later w.heap.size (by kernel_rfl) (by kernel_rfl) ?_
  repeat (any_goals (first | go_big_quiet_skip | (go_big_quiet_want; go_big_quiet_op; first | go_big_quiet_on | (apply Exists.intro; refine ⟨fun x => ?_, ?_⟩; (go_at_call 29; exact Calls.later_of (Nat.le_refl _) (CA.out _ (HM.out.below (Later.bel _)))); go_big_quiet_on))))
  refine wpQuiet_nil ?_
  intro wq hw'
  obtain ⟨⟨wz, hbq⟩, hw''⟩ := hw'
  subst hw''
  have hk := (hbq.cell (p := ⟨b, o, none⟩) hbl).trans HC0.out
  have HBQ := Lib.hid hbq
  clear hbq hcell CA HM
  by_cases h0 : k = 0
  · subst h0
    go_wp2_with fail
    go_ret
    refine ⟨?_, HBQ.out⟩
    rw [← HR.out]
    simp [*]
  · skip
    have e0 : (k == 0) = false := by rw [beq_eq_false_iff_ne]; exact h0
    by_cases h2 : k = 2
    · subst h2
      go_wp2_with fail
      go_ret
      refine ⟨?_, HBQ.out⟩
      rw [← HR.out]
      simp [*]
    · skip
      have e2 : (k == 2) = false := by rw [beq_eq_false_iff_ne]; exact h2
      go_wp2_with fail
      go_ret
      refine ⟨?_, HBQ.out⟩
      rw [← HR.out]
      simp [*]

set_option maxHeartbeats 3200000 in
set_option maxRecDepth 100000 in
/-- masterdiscref37.Kind of two valid maps. -/
theorem rKind_two (v : Value) (x y : Pm.M) (T : Nat → Value) (w : World) (hm : Pm.MapsAt w v [x, y] T) (hf : Pm.Few [x, y]) (h : Pm.all [x, y] = true) :
    Calls Tryz.prog 18 #[v] w fun e w' => e = .returned (.int .i64 (if y.number = x.number then (if x.kind = 0 ∧ y.kind = 1 then 1 else if x.kind = 0 ∧ y.kind = 3 then 3 else -1) else -1)) ∧ Below w.heap.size w w' := by
  have CA := Lib.hid (fun W h => rValid_any v [x, y] T W h hf)
  have HM := Lib.hid hm
  obtain ⟨A, c, rfl, hlc, hcm, hcells⟩ := hm.row
  obtain ⟨b, o, rfl, hbl, hc⟩ := hcells (by simp)
  have hc0 := hc 0 (by simp) 0 _ rfl
  have hc1 := hc 0 (by simp) 1 _ rfl
  have hc6 := hc 1 (by simp) 0 _ rfl
  have hc7 := hc 1 (by simp) 1 _ rfl
  simp only [List.getD_cons_zero, List.getD_cons_succ, Nat.zero_mul, Nat.one_mul, Nat.add_zero] at hc0 hc1 hc6 hc7
  rw [h] at CA
  obtain ⟨k, nm, ts, f, mi, bm⟩ := x
  obtain ⟨k', nm', ts', f', mi', bm'⟩ := y
  simp only [List.length_cons, List.length_nil, Nat.zero_add] at *
  have hcell : ∀ x : Later w.heap.size w, x.to.cell? ⟨b, o + 1, none⟩ = some (.int .i64 nm) := fun x => later_cell x hbl hc1
  have hcell' : ∀ x : Later w.heap.size w, x.to.cell? ⟨b, o + 6 + 1, none⟩ = some (.int .i64 nm') := fun x => later_cell x hbl hc7
  have HC0 := Lib.hid hc0
  have HC6 := Lib.hid hc6
  clear hm hf hcells hc h hc0 hc1 hc6 hc7
  generalize hR : (if nm' = nm then (if k = 0 ∧ k' = 1 then (1 : Int) else if k = 0 ∧ k' = 3 then 3 else -1) else -1) = R
  have HR := Lib.hid hR
  clear hR
  by_cases hn : nm' = nm
  · rw [if_pos hn] at HR
    have en : (nm' != nm) = false := by rw [bne_eq_false_iff_eq]; exact hn
    clear hn
    go_enter Tryz.func18, Tryz.ntmps18
    go_wp2_with fail
    refine wp_region_later w.heap.size (by kernel_rfl) (by kernel_rfl) ?_
    repeat (any_goals (first | go_big_quiet_skip | (go_big_quiet_want; go_big_quiet_op; first | go_big_quiet_on | (apply Exists.intro; refine ⟨fun x => ?_, ?_⟩; (go_at_call 29; exact Calls.later_of (Nat.le_refl _) (CA.out _ (HM.out.below (Later.bel _)))); go_big_quiet_on))))
    refine wpQuiet_nil ?_
    intro wq hw'
    obtain ⟨⟨wz, hbq⟩, hw''⟩ := hw'
    subst hw''
    have hk := (hbq.cell (p := ⟨b, o, none⟩) hbl).trans HC0.out
    have hk' := (hbq.cell (p := ⟨b, o + 6, none⟩) hbl).trans HC6.out
    have HBQ := Lib.hid hbq
    clear hbq hcell hcell' CA HM
    by_cases h0 : k = 0
    · subst h0
      by_cases h1 : k' = 1
      · subst h1
        go_wp2_with fail
        go_ret
        refine ⟨?_, HBQ.out⟩
        rw [← HR.out]
        simp [*]
      · skip
        have e1 : (k' == 1) = false := by rw [beq_eq_false_iff_ne]; exact h1
        by_cases h3 : k' = 3
        · subst h3
          go_wp2_with fail
          go_ret
          refine ⟨?_, HBQ.out⟩
          rw [← HR.out]
          simp [*]
        · skip
          have e3 : (k' == 3) = false := by rw [beq_eq_false_iff_ne]; exact h3
          go_wp2_with fail
          go_ret
          refine ⟨?_, HBQ.out⟩
          rw [← HR.out]
          simp [*]
    · skip
      have e0 : (k == 0) = false := by rw [beq_eq_false_iff_ne]; exact h0
      go_wp2_with fail
      go_ret
      refine ⟨?_, HBQ.out⟩
      rw [← HR.out]
      simp [*]
  · rw [if_neg hn] at HR
    have en : (nm' != nm) = true := by rw [bne_iff_ne]; exact hn
    clear hn
    go_enter Tryz.func18, Tryz.ntmps18
    go_wp2_with fail
    refine wp_region_later w.heap.size (by kernel_rfl) (by kernel_rfl) ?_
    repeat (any_goals (first | go_big_quiet_skip | (go_big_quiet_want; go_big_quiet_op; first | go_big_quiet_on | (apply Exists.intro; refine ⟨fun x => ?_, ?_⟩; (go_at_call 29; exact Calls.later_of (Nat.le_refl _) (CA.out _ (HM.out.below (Later.bel _)))); go_big_quiet_on))))
    refine wpQuiet_nil ?_
    intro wq hw'
    obtain ⟨⟨wz, hbq⟩, hw''⟩ := hw'
    subst hw''
    have HBQ := Lib.hid hbq
    clear hbq hcell hcell' CA HM
    go_wp2_with fail
    go_ret
    refine ⟨?_, HBQ.out⟩
    rw [← HR.out]
    simp [*]

/-- masterdiscref37.Kind. -/
theorem rKind_any (v : Value) (l : List Pm.M) (T : Nat → Value) (w : World) (hm : Pm.MapsAt w v l T) (hf : Pm.Few l) :
    Calls Tryz.prog 18 #[v] w fun e w' => e = .returned (.int .i64 (Pm.kindR l)) ∧ Below w.heap.size w w' := by
  by_cases ha : Pm.all l = true
  · match l with
    | [] =>
      rw [show Pm.kindR [] = -1 by decide +kernel]
      exact rKind_no v [] T w hm hf (Or.inr ⟨ha, Or.inl rfl⟩)
    | [x] =>
      have e : Pm.kindR [x] = if x.kind = 0 then 0 else if x.kind = 2 then 2 else -1 := by
        unfold Pm.kindR
        rw [if_pos ⟨ha, by simp [Pm.isNum]⟩]
        exact Pm.kindK_one x.kind
      rw [e]
      exact rKind_one v x T w hm hf ha
    | [x, y] =>
      have e : Pm.kindR [x, y] = if y.number = x.number then (if x.kind = 0 ∧ y.kind = 1 then 1 else if x.kind = 0 ∧ y.kind = 3 then 3 else -1) else -1 := by
        unfold Pm.kindR
        by_cases hn : y.number = x.number
        · rw [if_pos ⟨ha, by simp [Pm.isNum, hn]⟩, if_pos hn]
          exact Pm.kindK_two x.kind y.kind
        · rw [if_neg (fun h => hn (by simpa [Pm.isNum] using h.2)), if_neg hn]
      rw [e]
      exact rKind_two v x y T w hm hf ha
    | x :: y :: z :: t =>
      have e : Pm.kindR (x :: y :: z :: t) = -1 := by
        unfold Pm.kindR
        split
        · exact Pm.kindK_long (Or.inr (by simp))
        · rfl
      rw [e]
      exact rKind_no v _ T w hm hf (Or.inr ⟨ha, Or.inr (by simp)⟩)
  · have e : Pm.kindR l = -1 := by
      unfold Pm.kindR
      rw [if_neg (fun h => ha h.1)]
    rw [e]
    exact rKind_no v l T w hm hf (Or.inl (by simpa using ha))
end Go.Proofs.YtlcdhlfkffkifaaGreatDoor

/-
  The walk through the reference's Maps, all but sparable.
-/
namespace Go.Proofs.YtlcdhlfkffkifaaGreatDoor
open Go.RowKit
namespace Pm
theorem OwnM.new (W : World) (base : Nat) (hb : base ≤ W.heap.size) (L : List (M × Value)) (hL : L.length ≤ 8) (ht : ∀ p ∈ L, Tab W p.2 p.1.tables) (hi : ∀ p ∈ L, I64 p.1) :
    OwnM (W.alloc (.cells (cellsL L).toArray 59)) base (.slice (some ⟨W.heap.size, 0, Option.none⟩) L.length L.length) L := by
  have hl := cellsL_len L
  refine ⟨⟨hl, Or.inr ⟨W.heap.size, L.length, (cellsL L).toArray, rfl, hb, ?_, Nat.le_refl _, by unfold maxLen; omega, by simpa using hl, ?_⟩⟩, fun p hp => Kit.own_below (ht p hp) ((Below.refl _ _).alloc (Nat.le_refl _) _), hi⟩
  · exact heap_alloc_new _ _
  · rw [List.take_of_length_le (by simp; omega)]
end Pm

set_option maxHeartbeats 3200000 in
set_option maxRecDepth 100000 in
/-- masterdiscref37.Maps, all but sparable. -/
theorem rMaps_not2 (kind : Int) (tv : Value) (ts : List Int) (f m b : Int) (w : World) (h2 : ¬ kind = 2) (hi : Pm.I64 ⟨3, 0, [], f, m, b⟩) :
    Calls Tryz.prog 19 #[.int .i64 kind, tv, .int .i64 f, .int .i64 m, .int .i64 b] w fun e w' => ∃ v L, e = .returned v ∧ L.map Prod.fst = Pm.mapsR kind ts f m b ∧ Pm.OwnM w' w.heap.size v L ∧ Below w.heap.size w w' := by
  have hT : ∀ W : World, Pm.Tab W (.slice none 0 0) [] := fun W => ⟨rfl, Or.inl ⟨rfl, rfl⟩⟩
  have hI0 : Pm.I64 ⟨0, 0, [], 0, 0, 0⟩ := ⟨by simp, by simp, by simp, by simp, by simp⟩
  have hI1 : Pm.I64 ⟨1, 0, [], 0, 0, 0⟩ := ⟨by simp, by simp, by simp, by simp, by simp⟩
  have hsz : ∀ o : Obj, (w.alloc o).heap.size = w.heap.size + 1 := fun o => by simp
  have hbl : ∀ o o' : Obj, Below w.heap.size w ((w.alloc o).alloc o') := fun o o' => ((Below.refl _ _).alloc (Nat.le_refl _) o).alloc (by simp) o'
  have HT := Lib.hid hT
  have HI0 := Lib.hid hI0
  have HI1 := Lib.hid hI1
  have HI3 := Lib.hid hi
  have HSZ := Lib.hid hsz
  have HBL := Lib.hid hbl
  clear hT hI0 hI1 hi hsz hbl
  have own : Hid (∀ (o : Obj) (L : List (Pm.M × Value)), L.length ≤ 8 → (∀ p ∈ L, p.2 = .slice none 0 0 ∧ p.1.tables = [] ∧ Pm.I64 p.1) → Pm.OwnM ((w.alloc o).alloc (.cells (Pm.cellsL L).toArray 59)) w.heap.size (.slice (some ⟨w.heap.size + 1, 0, none⟩) L.length L.length) L) := Lib.hid fun o L hL hp => by
    have h := Pm.OwnM.new (w.alloc o) w.heap.size (by simp) L hL (fun p h => by obtain ⟨h1, h2, _⟩ := hp p h; rw [h1, h2]; exact HT.out _) (fun p h => (hp p h).2.2)
    rw [HSZ.out] at h
    exact h
  by_cases k0 : kind = 0
  · subst k0
    go_enter Tryz.func19, Tryz.ntmps19
    go_wp2_with fail
    go_ret
    exact ⟨_, [(⟨0, 0, [], 0, 0, 0⟩, .slice none 0 0)], rfl, rfl, own.out _ [(⟨0, 0, [], 0, 0, 0⟩, .slice none 0 0)] (by decide) (fun p hp => by rw [List.mem_singleton.1 hp]; exact ⟨rfl, rfl, HI0.out⟩), HBL.out _ _⟩
  · by_cases k1 : kind = 1
    · subst k1
      go_enter Tryz.func19, Tryz.ntmps19
      go_wp2_with fail
      go_ret
      refine ⟨_, [(⟨0, 0, [], 0, 0, 0⟩, .slice none 0 0), (⟨1, 0, [], 0, 0, 0⟩, .slice none 0 0)], rfl, rfl, own.out _ [(⟨0, 0, [], 0, 0, 0⟩, .slice none 0 0), (⟨1, 0, [], 0, 0, 0⟩, .slice none 0 0)] (by decide) (fun p hp => ?_), HBL.out _ _⟩
      rcases List.mem_cons.1 hp with rfl | hp
      · exact ⟨rfl, rfl, HI0.out⟩
      · rw [List.mem_singleton.1 hp]; exact ⟨rfl, rfl, HI1.out⟩
    · by_cases k3 : kind = 3
      · subst k3
        go_enter Tryz.func19, Tryz.ntmps19
        go_wp2_with fail
        go_ret
        refine ⟨_, [(⟨0, 0, [], 0, 0, 0⟩, .slice none 0 0), (⟨3, 0, [], f, m, b⟩, .slice none 0 0)], rfl, rfl, own.out _ [(⟨0, 0, [], 0, 0, 0⟩, .slice none 0 0), (⟨3, 0, [], f, m, b⟩, .slice none 0 0)] (by simp) (fun p hp => ?_), HBL.out _ _⟩
        rcases List.mem_cons.1 hp with rfl | hp
        · exact ⟨rfl, rfl, HI0.out⟩
        · rw [List.mem_singleton.1 hp]; exact ⟨rfl, rfl, HI3.out⟩
      · have e0 : decide (kind = 0) = false := decide_eq_false k0
        have e1 : decide (kind = 1) = false := decide_eq_false k1
        have e2 : decide (kind = 2) = false := decide_eq_false h2
        have e3 : decide (kind = 3) = false := decide_eq_false k3
        have HM := Lib.hid (show Pm.mapsR kind ts f m b = [] by unfold Pm.mapsR Pm.kindsR; rw [if_neg k0, if_neg k1, if_neg h2, if_neg k3]; rfl)
        go_enter Tryz.func19, Tryz.ntmps19
        go_wp2_with fail
        go_ret
        exact ⟨_, [], rfl, HM.out.symm, Pm.OwnM.nil _ _, (Below.refl _ _).alloc (Nat.le_refl _) _⟩
end Go.Proofs.YtlcdhlfkffkifaaGreatDoor

/-
  The walk through the reference's Maps, sparable.
-/
namespace Go.Proofs.YtlcdhlfkffkifaaGreatDoor
open Go.RowKit
theorem intInfo3 : (Tryz.prog.info? 3).map (fun i => (i.zero, i.size, i.bytes)) = some (some (.int .i64 0), 1, 8) := by kernel_rfl

set_option maxHeartbeats 3200000 in
set_option maxRecDepth 100000 in
/-- masterdiscref37.Maps, sparable. -/
theorem rMaps_2 (tv : Value) (ts : List Int) (f m b : Int) (w : World) (hr : Kit.RowS w tv (Kit.izs ts)) (hl : ts.length ≤ 64) :
    Calls Tryz.prog 19 #[.int .i64 2, tv, .int .i64 f, .int .i64 m, .int .i64 b] w fun e w' => ∃ v L, e = .returned v ∧ L.map Prod.fst = Pm.mapsR 2 ts f m b ∧ Pm.OwnM w' w.heap.size v L ∧ Below w.heap.size w w' := by
  have hb2 : ∀ o o' : Obj, Below w.heap.size w ((w.alloc o).alloc o') := fun o o' => ((Below.refl _ _).alloc (Nat.le_refl _) o).alloc (by simp) o'
  have hown : ∀ o : Obj, ((w.alloc o).alloc (.cells #[] 3)).ownsRow w.heap.size 3 1 (.slice (some ⟨w.heap.size + 1, 0, none⟩) 0 0) 0 [] := fun o => by
    have h := Kit.own_base (Kit.own_nil (w.alloc o) 3) (B := w.heap.size) (by simp)
    rw [show (w.alloc o).heap.size = w.heap.size + 1 by simp] at h
    exact h
  have hrr : ∀ o o' : Obj, Kit.RowS ((w.alloc o).alloc o') tv (Kit.izs ts) := fun o o' => hr.below (hb2 o o')
  have hsz : ∀ o o' : Obj, w.heap.size ≤ ((w.alloc o).alloc o').heap.size := fun o o' => (hb2 o o').size
  have hby : (0 + (Kit.izs ts).length) * 8 ≤ 140737488355328 := by rw [Kit.izs_length]; omega
  have HB2 := Lib.hid hb2
  have HOWN := Lib.hid hown
  have HRR := Lib.hid hrr
  have HSZ := Lib.hid hsz
  have HBY := Lib.hid hby
  obtain ⟨⟨A0, c0, rfl, _, _, _⟩, _⟩ := hr
  clear hb2 hown hrr hsz hby
  go_enter Tryz.func19, Tryz.ntmps19
  go_wp2_with (at_builtin; refine Kit.appRow intInfo3 rfl (by decide) rfl _ _ 32 rfl Tryz.underlying32 w.heap.size _ _ _ rfl (HOWN.out _) _ _ rfl (HRR.out _ _) (Kit.one_izs _) HBY.out (HSZ.out _ _) ?_)
  intro v' w4 ho hb4
  have hb := (HB2.out _ _).trans hb4
  have HO := Lib.hid ho
  have HB := Lib.hid hb
  obtain ⟨A', c', rfl, _⟩ := Kit.Row.of_own ho
  clear ho hb hb4
  go_wp2_with fail
  go_ret
  have hT : Pm.Tab w4 (.slice A' (Kit.izs ts).length c') ts := by
    have h := Kit.own_base HO.out (B := 0) (Nat.zero_le _)
    try simp only [Nat.zero_add, List.nil_append] at h
    unfold Pm.Tab
    rw [← Kit.izs_length ts]
    exact h
  exact ⟨_, [(⟨2, 0, ts, 0, 0, 0⟩, .slice A' (Kit.izs ts).length c')], rfl, rfl, Pm.OwnM.new w4 w.heap.size HB.out.size [(⟨2, 0, ts, 0, 0, 0⟩, .slice A' (Kit.izs ts).length c')] (by simp) (fun p hp => by rw [List.mem_singleton.1 hp]; exact hT) (fun p hp => by rw [List.mem_singleton.1 hp]; exact ⟨by simp, by simp, by simp, by simp, by simp⟩), HB.out.alloc HB.out.size _⟩
end Go.Proofs.YtlcdhlfkffkifaaGreatDoor
