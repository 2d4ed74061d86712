/-
  The law's own harness holds (awake); the body of FinalizeContinues.
-/
import Derived.Test.YtiekfipjbmdkpaaGreatDoorQz
import Derived.Test.YtiekfipjbmdkpaaGreatDoorFf
import Derived.BigQuiet
import Derived.Deep.QuietTactic
namespace Go.Proofs.YtiekfipjbmdkpaaGreatDoor
open Go.RowKit
/-- A world that leaves what lies below block B as it is in w. -/
structure Later (B : Nat) (w : World) where
  wld : World
  bel : Below B w wld

instance later_ne {B : Nat} {w : World} : Nonempty (Later B w) := ⟨⟨w, Below.refl B w⟩⟩

theorem wp_region_later {P : Program} {id : Nat} {Q : Exit → Act → World → Prop} {a : Act} {w : World} {l : List Oper} (B : Nat) (hm : P.follows .mixedOrders = true) (hB : Region.lexB .any l.toArray = true)
    (h : wpQuiet P l.toArray (fun w' => ∃ x : Later B w, w' = x.wld) (fun a' => ∀ w', (∃ x : Later B w, w' = x.wld) → Q .normal a' w') l a) : (Code.region id l.toArray true).wp P Q a w :=
  wp_region_quiet (C := fun w' => ∃ x : Later B w, w' = x.wld) hm hB ⟨⟨w.drewN 1, Kit.below_drewN 1⟩, rfl⟩ (by simpa using h)

/-- A callee's contract, met in a later world. -/
theorem Calls.later_of {P : Program} {f : FuncId} {args : Array Value} {B : Nat} {w : World} {x : Later B w} {v : Value} (hB : B ≤ w.heap.size)
    (h : Calls P f args x.wld fun e w' => e = .returned v ∧ Below x.wld.heap.size x.wld w') : Calls P f args x.wld fun e w'' => e = .returned v ∧ ∃ y : Later B w, w'' = y.wld :=
  h.mono fun _ _ ⟨he, hb⟩ => ⟨he, ⟨_, x.bel.trans (hb.mono (Nat.le_trans hB x.bel.size))⟩, rfl⟩

/-- .. of a callee that leaves the world as it is. -/
theorem Calls.later_same {P : Program} {f : FuncId} {args : Array Value} {B : Nat} {w : World} {x : Later B w} {v : Value}
    (h : Calls P f args x.wld fun e w' => e = .returned v ∧ x.wld = w') : Calls P f args x.wld fun e w'' => e = .returned v ∧ ∃ y : Later B w, w'' = y.wld :=
  h.mono fun _ _ ⟨he, hb⟩ => ⟨he, x, hb.symm⟩
theorem later_cell {B : Nat} {w : World} (x : Later B w) {b o : Nat} {v : Value} (hb : b < B) (h : w.cell? ⟨b, o, none⟩ = some v) : x.wld.cell? ⟨b, o, none⟩ = some v :=
  (x.bel.cell (p := ⟨b, o, none⟩) hb).trans h
set_option maxRecDepth 100000 in
/-- awake answers true. -/
theorem awake_any (w : World) : Calls Tryz.prog 4 #[] w fun e w' => e = .returned (.bool true) ∧ Below w.heap.size w w' := by
  have hg : ∀ y o, (Sx.c25.hin.m).get y = some o → False := fun y o h => by
    have := Go.Sx.ofM_get_mem (l := []) h
    cases this
  have hr : Go.Sx.Rep Tryz.prog Sx.E0 Sx.c25.hin w := ⟨fun i o h => (hg i o h).elim, fun i j oi oj h => (hg i oi h).elim⟩
  have h := Go.Sx.CallsF.calls Tryz.func4 (by kernel_rfl) (by kernel_rfl) (Sx.c25_true.2 Sx.E0 w [] hr rfl)
  refine Calls.mono h fun e w' he => ?_
  obtain ⟨x, rfl, E', _, q2, q3⟩ := he
  have q3 : x = .bool true := q3
  refine ⟨by rw [q3], q2.calm.os, q2.calm.tape, q2.calm.output, q2.size, fun k hk => ?_⟩
  rcases q2.frame k hk with q | ⟨y, o, p1, _⟩
  · exact q
  · exact (hg y o p1).elim

set_option maxHeartbeats 12800000 in
set_option maxRecDepth 100000 in
/-- FinalizeContinues. -/
theorem lawContinues_any (v1 sv1 v2 sv2 : Value) (b1 b2 : List ByteArray) (l1 l2 : List Fi.Se) (w : World) (hm1 : Lm.Strs w v1 b1) (hs1 : Fi.Sess w sv1 l1) (hm2 : Lm.Strs w v2 b2) (hs2 : Fi.Sess w sv2 l2) :
    Calls Tryz.prog 3 #[.agg #[v1, sv1], .agg #[v2, sv2]] w fun e w' => e = .returned (.bool true) ∧ Below w.heap.size w w' := by
  have HM1 := Lib.hid hm1
  have HM2 := Lib.hid hm2
  have HS1 := Lib.hid hs1
  have HS2 := Lib.hid hs2
  obtain ⟨A1, c1, rfl, a1, a2, _⟩ := hm1
  obtain ⟨A2, c2, rfl, a3, a4, _⟩ := hm2
  obtain ⟨A3, c3, rfl, a5, a6, _⟩ := hs1
  obtain ⟨A4, c4, rfl, a7, a8, _⟩ := hs2
  simp only [Lm.strs_length] at a1 a2 a3 a4 HM1 HM2 ⊢
  unfold maxLen at a2 a4 a6 a8
  have hb2 := Lib.hid (((Below.refl w.heap.size w).alloc (Nat.le_refl _) (.cells #[.slice A1 b1.length c1, .slice A3 l1.length c3] 26)).alloc (by simp) (.cells #[.slice A2 b2.length c2, .slice A4 l2.length c4] 26))
  have hx1 : ((w.alloc (.cells #[.slice A1 b1.length c1, .slice A3 l1.length c3] 26)).alloc (.cells #[.slice A2 b2.length c2, .slice A4 l2.length c4] 26)).heap[w.heap.size]? = some (.cells #[.slice A1 b1.length c1, .slice A3 l1.length c3] 26 (0, 0)) :=
    (Below.heap_alloc _ _ _ (by simp)).trans (World.alloc_heap_new w _)
  have hx2 : ((w.alloc (.cells #[.slice A1 b1.length c1, .slice A3 l1.length c3] 26)).alloc (.cells #[.slice A2 b2.length c2, .slice A4 l2.length c4] 26)).heap[w.heap.size + 1]? = some (.cells #[.slice A2 b2.length c2, .slice A4 l2.length c4] 26 (0, 0)) := by
    have := World.alloc_heap_new (w.alloc (.cells #[.slice A1 b1.length c1, .slice A3 l1.length c3] 26)) (.cells #[.slice A2 b2.length c2, .slice A4 l2.length c4] 26)
    simpa using this
  have CW := Lib.hid (fun W => awake_any W)
  have hsz : ((w.alloc (.cells #[.slice A1 b1.length c1, .slice A3 l1.length c3] 26)).alloc (.cells #[.slice A2 b2.length c2, .slice A4 l2.length c4] 26)).heap.size = w.heap.size + 2 := by simp
  go_enter Tryz.func3, Tryz.ntmps3
  go_wp2_with fail
  with_reducible refine (CW.out _).mono ?_
  rintro e w3 ⟨rfl, hb3⟩
  have hb03 := hb2.out.trans (hb3.mono (by omega))
  have HB := Lib.hid hb03
  have hy1 := (hb3.block w.heap.size (by omega)).trans hx1
  have hy2 := (hb3.block (w.heap.size + 1) (by omega)).trans hx2
  have p0 : w3.cell? ⟨w.heap.size, 0, none⟩ = some (.slice A1 b1.length c1) := Fi.box_cell hy1 0
  have p1 : w3.cell? ⟨w.heap.size, 1, none⟩ = some (.slice A3 l1.length c3) := Fi.box_cell hy1 1
  have p2 : w3.cell? ⟨w.heap.size + 1, 0, none⟩ = some (.slice A2 b2.length c2) := Fi.box_cell hy2 0
  have p3 : w3.cell? ⟨w.heap.size + 1, 1, none⟩ = some (.slice A4 l2.length c4) := Fi.box_cell hy2 1
  have h4 : w.heap.size + 2 ≤ w3.heap.size := by have := hb3.size; omega
  clear hx1 hx2 hsz hb3 CW hy1 hy2 hb03 hb2
  by_cases k1 : 600 < b1.length
  · have d1 : decide ((600 : Int) < (b1.length : Int)) = true := decide_eq_true (by omega)
    go_wp2_with fail
    go_ret
    exact ⟨rfl, HB.out⟩
  have d1 : decide ((600 : Int) < (b1.length : Int)) = false := decide_eq_false (by omega)
  by_cases k2 : 600 < b2.length
  · have d2 : decide ((600 : Int) < (b2.length : Int)) = true := decide_eq_true (by omega)
    go_wp2_with fail
    go_ret
    exact ⟨rfl, HB.out⟩
  have d2 : decide ((600 : Int) < (b2.length : Int)) = false := decide_eq_false (by omega)
  by_cases k3 : 20 < l1.length
  · have d3 : decide ((20 : Int) < (l1.length : Int)) = true := decide_eq_true (by omega)
    go_wp2_with fail
    go_ret
    exact ⟨rfl, HB.out⟩
  have d3 : decide ((20 : Int) < (l1.length : Int)) = false := decide_eq_false (by omega)
  by_cases k4 : 20 < l2.length
  · have d4 : decide ((20 : Int) < (l2.length : Int)) = true := decide_eq_true (by omega)
    go_wp2_with fail
    go_ret
    exact ⟨rfl, HB.out⟩
  have d4 : decide ((20 : Int) < (l2.length : Int)) = false := decide_eq_false (by omega)
  have CC := Lib.hid (fun W hb => continues_any _ _ _ _ b1 b2 l1 l2 W (HM1.out.below hb) (HS1.out.below hb) (HM2.out.below hb) (HS2.out.below hb))
  have CR := Lib.hid (fun W hb => rContinues_any _ _ _ _ b1 b2 l1 l2 W (HM1.out.below hb) (HS1.out.below hb) (HM2.out.below hb) (HS2.out.below hb))
  generalize Fi.contD b1 l1 b2 l2 = R at *
  go_wp2_with fail
  have z0 : ∀ x : Later w3.heap.size w3, x.wld.cell? ⟨w.heap.size, 0, none⟩ = some (.slice A1 b1.length c1) := fun x => later_cell x (by omega) p0
  have z1 : ∀ x : Later w3.heap.size w3, x.wld.cell? ⟨w.heap.size, 1, none⟩ = some (.slice A3 l1.length c3) := fun x => later_cell x (by omega) p1
  have z2 : ∀ x : Later w3.heap.size w3, x.wld.cell? ⟨w.heap.size + 1, 0, none⟩ = some (.slice A2 b2.length c2) := fun x => later_cell x (by omega) p2
  have z3 : ∀ x : Later w3.heap.size w3, x.wld.cell? ⟨w.heap.size + 1, 1, none⟩ = some (.slice A4 l2.length c4) := fun x => later_cell x (by omega) p3
  have hbl : ∀ x : Later w3.heap.size w3, Below w.heap.size w x.wld := fun x => HB.out.trans (x.bel.mono (by omega))
  have CC2 := Lib.hid (fun x : Later w3.heap.size w3 => CC.out x.wld (hbl x))
  have CR2 := Lib.hid (fun x : Later w3.heap.size w3 => CR.out x.wld (hbl x))
  have eR : (R == R) = true := by cases R <;> rfl
  refine wp_region_later w3.heap.size (by kernel_rfl) (by kernel_rfl) ?_
  repeat (any_goals (first | go_big_quiet_skip | (go_big_quiet_want; go_big_quiet_op; first | go_big_quiet_on | (apply Exists.intro; refine ⟨fun _ => ?_, ?_⟩; (first | (with_reducible refine Calls.later_of ?_ (CC2.out _); simp) | (with_reducible refine Calls.later_of ?_ (CR2.out _); simp)); go_big_quiet_on))))
  refine wpQuiet_nil ?_
  rintro wq ⟨x, rfl⟩
  have hbq := Lib.hid (hbl x)
  clear z0 z1 z2 z3 hbl
  go_wp2_with fail
  go_ret
  exact ⟨rfl, hbq.out⟩
end Go.Proofs.YtiekfipjbmdkpaaGreatDoor
