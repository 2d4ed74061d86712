/-
  The box of the reference's ParseSequence under way.
-/
import Derived.Test.YthkppbimkjmbnaaGreatDoorXh
import Derived.Test.YthkppbimkjmbnaaGreatDoorXj
import Derived.OrdersHeld
import Derived.Deep.RegionHeld3
namespace Go.Proofs.YthkppbimkjmbnaaGreatDoor
set_option linter.unusedVariables false
open Go.RowKit
open Vs (bs by_)
/-- A load yields the same in each world of a class. -/
theorem yields_load3 {P : Program} {S : World → Prop} {a : Act} {o : Oper} (ty : TypeId) (x : Operand) (ho : o.op = .load ty x) (g f : Nat) (hx : a.eval x = .pointer (some ⟨g, f, none⟩)) (v : Value) (hl : ∀ W, S W → (loadVar ty ⟨g, f, none⟩).run P W = .ok v W) :
    ∀ W, S W → (execOp a.eval o).run P W = .ok (Next.value v) W := fun W h => by
  unfold execOp
  simp only [ho, hx, Instr.loadAt, Instr.sureAddr, Sem.run_bind, Sem.run_pure, Result.andThen_ok, hl W h]
namespace Vs
/-- What is left of a body behind n of its statements. -/
def dropC : Nat → Code → Code
  | 0, c => c
  | n + 1, .seq _ b => dropC n b
  | _ + 1, c => c
open Pm (at_)
section
variable {w W : World} {gi gb gd : Nat} {Z : Array Value} {a b c : Int} {D : Vs.D}
theorem Pq.grown {W' : World} {r : Nat} (h : Pq w W gi gb Z a b c) (hg : W.grownBy W' (some r)) (hr : gb < r) : Pq w W' gi gb Z a b c := by
  have hi := h.li
  have hl := h.lb
  exact ⟨h.box.grown hg (fun k e => by cases e; omega), h.li, h.lb, (hg.block gi (Array.getElem?_eq_some_iff.1 h.ids).1 (fun e => by cases e; omega)).trans h.ids, (hg.block gb (Array.getElem?_eq_some_iff.1 h.best).1 (fun e => by cases e; omega)).trans h.best⟩
theorem grown_one (W : World) (g i : Nat) (v : Value) : W.grownBy (W.setCell ⟨g, i, none⟩ v) (some g) := ⟨rfl, rfl, rfl, by simp [World.setCell], fun k _ hk => Below.heap_setCell _ _ _ _ (fun e => hk (by simp [e]))⟩
theorem grown_cells (g : Nat) : ∀ (vs : List Value) (o : Nat) (V : World), V.grownBy (V.setCells g o vs) (some g)
  | [], _, V => World.grownBy.refl V _
  | v :: vs, o, V => World.grownBy.trans (grown_one V g o v) (grown_cells g vs (o + 1) _)
/-- The empty descriptors are stored into the result once more. -/
theorem Pq.same (h : Pq w W gi gb Z a b c) : Pq w (W.setCells w.heap.size 0 Z.toList) gi gb Z a b c := by
  have hi := h.li
  have hl := h.lb
  have hs := h.box.size
  have hg := grown_cells w.heap.size Z.toList 0 W
  exact ⟨⟨below_put (Nat.le_refl _) _ _ _ h.box.bel, row_put h.box.hr rfl, heap_put_other _ _ (by omega) h.box.hn⟩, h.li, h.lb, heap_put_other _ _ (by omega) h.ids, heap_put_other _ _ (by omega) h.best⟩
structure Pd (w W : World) (gi gb gd : Nat) (Z : Array Value) (a b c : Int) (D : Vs.D) : Prop where
  pq : Pq w W gi gb Z a b c
  ld : gb < gd
  row : W.heap[gd]? = some (.cells (dC D) 46 (0, 0))
theorem Pd.below {W' : World} (h : Pd w W gi gb gd Z a b c D) (hb : Below W.heap.size W W') : Pd w W' gi gb gd Z a b c D :=
  ⟨h.pq.below hb, h.ld, (hb.block gd (Array.getElem?_eq_some_iff.1 h.row).1).trans h.row⟩
theorem Pd.grown {W' : World} {D' : Vs.D} (h : Pd w W gi gb gd Z a b c D) (hg : W.grownBy W' (some gd)) (hr : W'.heap[gd]? = some (.cells (dC D') 46 (0, 0))) : Pd w W' gi gb gd Z a b c D' :=
  ⟨h.pq.grown hg h.ld, h.ld, hr⟩
/-- The rest of the result while some descriptors are read, cell by cell. -/
def exC : Array Value := #[.string ⟨#[120]⟩, .string ⟨#[]⟩, .string ⟨#[]⟩, .string ⟨#[]⟩, .string ⟨#[]⟩, .int .i64 1, .int .i64 1, .int .i64 315532800, .int .i64 0, .int .i64 0, .int .i64 0, .int .i64 0, .int .i64 0, .int .i64 0, .int .i64 0, .string ⟨#[]⟩, .int .i64 0, .int .i64 1, .int .i64 0, .int .i64 0, .int .i64 0, .int .i64 0]
theorem exC_eq : exC = dC exR := by kernel_rfl
theorem exC_one : exC.all (·.oneCell') = true := by rw [exC_eq]; exact dC_one exR
theorem exC_info : (Tryz.prog.info? 46).map (·.size) = some exC.size := by kernel_rfl
theorem Pd.start (h : Pq w W gi gb Z a b c) (hz : Z.size = 22) (D : Vs.D) {X : Array Value} (hX : X = dC D) : Pd w ((W.alloc (.cells Z 46)).setCells W.heap.size 0 X.toList) gi gb W.heap.size Z a b c D := by
  subst hX
  have hp : Pq w (W.alloc (.cells Z 46)) gi gb Z a b c := h.below ((Below.refl _ _).alloc (Nat.le_refl _) _)
  have hl := (Array.getElem?_eq_some_iff.1 h.best).1
  exact ⟨hp.grown (grown_cells W.heap.size _ 0 _) hl, hl, row_put (heap_alloc_new W _) (by rw [hz]; rfl)⟩
theorem okD_p1 (b : List UInt8) : okD (p1D b exR) = okVol (p1V b d0.vol) := by
  unfold okD
  rw [okLog_p1, exR_log, show (p1D b exR).part = exR.part from rfl, exR_part, Bool.and_true, Bool.and_true]
  rfl
theorem par3_1 {a b c : Pv} {x : Int} (h : p1E (by_ a.block) d0 = x) (hx : x ≠ 0) : par3 a b c = ((d0, (a.index : Int)), x) := by
  subst h
  exact if_pos hx
theorem par3_2 {a b c : Pv} {x : Int} (h1 : p1E (by_ a.block) d0 = 0) (h : p2E (by_ b.block) = x) (hx : x ≠ 0) : par3 a b c = ((d0, (b.index : Int)), x) := by
  subst h
  exact (if_neg (fun g => g h1)).trans (if_pos hx)
theorem par3_3 {a b c : Pv} {x : Int} (h1 : p1E (by_ a.block) d0 = 0) (h2 : p2E (by_ b.block) = 0) (h : p3E (by_ c.block) (p2D (by_ b.block) (p1D (by_ a.block) d0)) = x) (hx : x ≠ 0) : par3 a b c = ((d0, (c.index : Int)), x) := by
  subst h
  exact (if_neg (fun g => g h1)).trans ((if_neg (fun g => g h2)).trans (if_pos hx))
theorem par3_0 {a b c : Pv} (h1 : p1E (by_ a.block) d0 = 0) (h2 : p2E (by_ b.block) = 0) (h3 : p3E (by_ c.block) (p2D (by_ b.block) (p1D (by_ a.block) d0)) = 0) : par3 a b c = ((p3D (by_ c.block) (p2D (by_ b.block) (p1D (by_ a.block) exR)), 0), 0) :=
  (if_neg (fun g => g h1)).trans ((if_neg (fun g => g h2)).trans (if_neg (fun g => g h3)))
theorem p2E_eq (b : List UInt8) : p2E b = if (Cs.pentR (sl b 24 32)).2 ≠ 0 then 10 else if (Cs.pentR (sl b 24 32)).1.1 ≠ contN2 ∧ (Cs.pentR (sl b 24 32)).1.1 ≠ contN then 14 else if okPart (p2P b) = true then 0 else 10 := rfl
theorem p3E_eq (b : List UInt8) (d : Vs.D) : p3E b d = if at_ b 212 4 ≠ 2048 then 14 else if (Cs.parseR (sl b 84 128)).2 ≠ 0 ∨ at_ b 248 4 % 1073741824 = 0 ∨ 1608 < at_ b 264 4 then 10 else if okLog (p3D b d) = true then 0 else 10 := rfl
theorem sl_le (b : List UInt8) (a n : Nat) : (sl b a n).length ≤ n := by unfold sl; rw [List.length_take]; omega
/-- Stores of cells, one after the other. -/
def setAll (g : Nat) : List (Nat × Value) → World → World
  | [], W => W
  | (i, v) :: t, W => setAll g t (W.setCell ⟨g, i, none⟩ v)
theorem setAll_grown (g : Nat) : ∀ (l : List (Nat × Value)) (W : World), W.grownBy (setAll g l W) (some g)
  | [], W => World.grownBy.refl W _
  | (i, v) :: t, W => World.grownBy.trans (grown_one W g i v) (setAll_grown g t _)
def putAll (cs : Array Value) : List (Nat × Value) → Array Value
  | [] => cs
  | (i, v) :: t => putAll (cs.setIfInBounds i v) t
theorem setAll_row {g : Nat} {t : TypeId} : ∀ (l : List (Nat × Value)) (cs : Array Value) (W : World), W.heap[g]? = some (.cells cs t (0, 0)) → (setAll g l W).heap[g]? = some (.cells (putAll cs l) t (0, 0))
  | [], cs, W, h => h
  | (i, v) :: l, cs, W, h => setAll_row l _ _ (heap_setCell_same _ _ i _ _ v h)
theorem Pd.sets {D' : Vs.D} (h : Pd w W gi gb gd Z a b c D) (l : List (Nat × Value)) (hD : putAll (dC D) l = dC D') : Pd w (setAll gd l W) gi gb gd Z a b c D' :=
  h.grown (setAll_grown gd l W) (by rw [← hD]; exact setAll_row l _ _ h.row)
theorem put_d1 (A : List UInt8) : putAll (dC exR) [(5, .int .i64 (Pm.at_ A 56 2 : Nat)), (6, .int .i64 (Pm.at_ A 58 2 : Nat)), (1, .string (bs (Cs.parseR (sl A 72 128)).1)), (7, .int .i64 (readSR (sl A 376 12)).1.1)] = dC (p1D A exR) := rfl
theorem put_da (D : Vs.D) (x0 x1 x2 x3 y4 y5 : Int) : putAll (dC D) [(8, .int .i64 x0), (9, .int .i64 x1), (10, .int .i64 x2), (11, .int .i64 x3), (12, .int .i64 y4), (13, .int .i64 y5)] = dC { D with part := ⟨x0, x1, x2, x3, y4, y5⟩ } := by kernel_rfl
theorem put_db (D : Vs.D) (x4 x5 : Int) : putAll (dC D) [(12, .int .i64 x4), (13, .int .i64 x5)] = dC { D with part := { D.part with bstart := x4, bcount := x5 } } := by kernel_rfl
theorem put_dc (D : Vs.D) (n : ByteArray) : putAll (dC D) [(0, .string n)] = dC { D with vol := { D.vol with name := n } } := by kernel_rfl
theorem put_dd (D : Vs.D) (t : ByteArray) (k l b p m i c : Int) : putAll (dC D) [(16, .int .i64 k), (17, .int .i64 l), (18, .int .i64 b), (19, .int .i64 p), (14, .int .i64 m), (15, .string t), (20, .int .i64 i), (21, .int .i64 c)] = dC { D with fk := k, fl := l, fb := b, fp := p, maps := m, table := t, istart := i, icount := c } := by kernel_rfl
end
end Vs
end Go.Proofs.YthkppbimkjmbnaaGreatDoor
