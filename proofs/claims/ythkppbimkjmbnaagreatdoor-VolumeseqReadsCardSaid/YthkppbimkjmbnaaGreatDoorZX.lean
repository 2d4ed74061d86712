/-
  The walk through the third parser of a sequence's descriptors.
-/
import Derived.Test.YthkppbimkjmbnaaGreatDoorZW
import Derived.Deep.RegionHeld3
import Derived.Test.YthkppbimkjmbnaaGreatDoorZE
import Derived.Test.YthkppbimkjmbnaaGreatDoorZO
import Derived.Deep.CutBlock
import Derived.Deep.DeepCutAuto
import Derived.Deep.Upon
namespace Go.Proofs.YthkppbimkjmbnaaGreatDoor
open Go.RowKit
open Vs (bs by_)
namespace Vs
theorem sl_sl (b : List UInt8) {a n k m : Nat} (h : k + m ≤ n) : sl (sl b a n) k m = sl b (a + k) m := by
  unfold sl
  rw [List.drop_take, List.take_take, List.drop_drop, Nat.min_eq_left (by omega)]
theorem at_sl2 (b : List UInt8) {a n k m : Nat} (h : k + m ≤ n) : Pm.at_ (sl b a n) k m = Pm.at_ b (a + k) m := by
  rw [at_sl, sl_sl b h, ← at_sl]
theorem OwnX.one {w : World} {base : Nat} {v : Value} {x : Pm.X} (h : OwnX w base v [x]) : ∃ g cap, v = .slice (some ⟨g, 0, none⟩) 1 cap ∧ base ≤ g ∧ g < w.heap.size ∧ 1 ≤ cap ∧ w.cell? ⟨g, 0, none⟩ = some (.int .i64 x.kind) ∧ w.cell? ⟨g, 1, none⟩ = some (.int .i64 x.length) ∧ w.cell? ⟨g, 2, none⟩ = some (.int .i64 x.block) ∧ w.cell? ⟨g, 3, none⟩ = some (.int .i64 x.part) := by
  have h0 := h
  rcases h.2 with ⟨_, hz⟩ | ⟨g, cap, cur, rfl, hb, hg, hnc, hcm, _, _⟩
  · cases hz
  · have c0 := h0.cells (g := g) rfl 0 (.int .i64 x.kind) rfl
    have c1 := h0.cells (g := g) rfl 1 (.int .i64 x.length) rfl
    have c2 := h0.cells (g := g) rfl 2 (.int .i64 x.block) rfl
    have c3 := h0.cells (g := g) rfl 3 (.int .i64 x.part) rfl
    rw [Addr.add_lit] at c0 c1 c2 c3
    exact ⟨g, cap, rfl, hb, (Array.getElem?_eq_some_iff.1 hg).1, hnc, c0, c1, c2, c3⟩
end Vs

set_option maxHeartbeats 12800000 in
set_option maxRecDepth 100000 in
/-- The parser of the logical volume descriptor. -/
theorem parse3_any (s : ByteArray) (hs : s.size = 2048) (d : Vs.D) (w0 W : World) (tb db : Nat) (hT : Lib.Utf8Tabs 1 2 w0) (hB0 : Below w0.heap.size w0 W) (hdb : w0.heap.size ≤ db) (h1 : W.heap[tb]? = some (.cells #[.pointer (some ⟨db, 0, none⟩)] 113 (0, 0))) (h2 : W.heap[db]? = some (.cells (Vs.dC d) 46 (0, 0))) (hne : tb ≠ db) :
    Calls Tryz.prog 140 #[.string s, .pointer (some ⟨tb, 0, none⟩)] W fun e W' => e = .returned (.int .i64 (Vs.p3E (by_ s) d)) ∧ (Vs.p3E (by_ s) d = 0 → W'.heap[db]? = some (.cells (Vs.dC (Vs.p3D (by_ s) d)) 46 (0, 0))) ∧ Vs.Prs W W' db := by
  obtain ⟨x1, e1⟩ : ∃ x, s.extract 84 212 = x := ⟨_, rfl⟩
  obtain ⟨x2, e2⟩ : ∃ x, s.extract 248 264 = x := ⟨_, rfl⟩
  have b1 : by_ x1 = Vs.sl (by_ s) 84 128 := by rw [← e1, Vs.bs_ext]; rfl
  have b2 : by_ x2 = Vs.sl (by_ s) 248 16 := by rw [← e2, Vs.bs_ext]; rfl
  have z1 : x1.size ≤ 2048 := by rw [← e1, ByteArray.size_extract]; omega
  have z2 : x2.size = 16 := by rw [← e2, ByteArray.size_extract]; omega
  have CP := Lib.hid (fun W => (show Calls Tryz.prog 107 #[.string x1] W fun e w' => e = .returned (.tuple #[.string (bs (Cs.parseR (by_ x1)).1), .int .i64 (Cs.parseR (by_ x1)).2]) ∧ Below W.heap.size W w' from parse_any x1 W (by omega)))
  have CD := Lib.hid (fun W => decodeLong_any x2 z2 W)
  have hpl := Vs.parse_le (by_ x1)
  rw [Vs.by_len] at hpl
  rw [b1] at CP hpl
  have hdl : Vs.dlX (by_ x2) = if Pm.at_ (by_ s) 248 4 % 1073741824 = 0 then [] else [⟨(Pm.at_ (by_ s) 248 4 / 1073741824 : Nat), (Pm.at_ (by_ s) 248 4 % 1073741824 : Nat), (Pm.at_ (by_ s) 252 4 : Nat), (Pm.at_ (by_ s) 256 2 : Nat)⟩] := by
    unfold Vs.dlX
    rw [b2, Vs.at_sl2 _ (by decide), Vs.at_sl2 _ (by decide), Vs.at_sl2 _ (by decide)]
  rw [hdl] at CD
  have C0 := Lib.hid (fun W => vRead_any s 212 4 212 4 rfl rfl (.inr rfl) (by omega) (by omega) W)
  have C1 := Lib.hid (fun W => vRead_any s 264 4 264 4 rfl rfl (.inr rfl) (by omega) (by omega) W)
  have C2 := Lib.hid (fun W => vRead_any s 268 4 268 4 rfl rfl (.inr rfl) (by omega) (by omega) W)
  have CX := Lib.hid (fun W => extentAt_any s 432 432 rfl (by omega) (by omega) W)
  have HE := Lib.hid (show Vs.p3E (by_ s) d = if Pm.at_ (by_ s) 212 4 ≠ 2048 then 14 else if (Cs.parseR (Vs.sl (by_ s) 84 128)).2 ≠ 0 ∨ Pm.at_ (by_ s) 248 4 % 1073741824 = 0 ∨ 1608 < Pm.at_ (by_ s) 264 4 then 10 else if Vs.okLog (Vs.p3D (by_ s) d) = true then 0 else 10 from rfl)
  have HD := Lib.hid (show Vs.p3D (by_ s) d = { d with vol := { d.vol with name := bs (Cs.parseR (Vs.sl (by_ s) 84 128)).1 }, fk := (Pm.at_ (by_ s) 248 4 / 1073741824 : Nat), fl := (Pm.at_ (by_ s) 248 4 % 1073741824 : Nat), fb := (Pm.at_ (by_ s) 252 4 : Nat), fp := (Pm.at_ (by_ s) 256 2 : Nat), maps := (Pm.at_ (by_ s) 268 4 : Nat), table := bs (Vs.sl (by_ s) 440 (Pm.at_ (by_ s) 264 4)), istart := (Pm.at_ (by_ s) 436 4 : Nat), icount := (Pm.at_ (by_ s) 432 4 / 2048 : Nat) } from rfl)
  have HTL : Hid (Pm.at_ (by_ s) 264 4 ≤ 1608 → s.extract 440 (440 + Pm.at_ (by_ s) 264 4) = bs (Vs.sl (by_ s) 440 (Pm.at_ (by_ s) 264 4)) ∧ (bs (Vs.sl (by_ s) 440 (Pm.at_ (by_ s) 264 4))).size ≤ 1608) := Lib.hid (fun h => ⟨by rw [Vs.bs_ext, Nat.add_sub_cancel_left], by rw [Vs.bs_size]; unfold Vs.sl; rw [List.length_take]; omega⟩)
  have CL := Lib.hid (fun W (h : Lib.Utf8Tabs 1 2 W) (h2 : (bs (Vs.sl (by_ s) 440 (Pm.at_ (by_ s) 264 4))).size ≤ 1608) => vLogical_any (Vs.p3D (by_ s) d) W h (by rw [HD.out]; show (bs (Cs.parseR (Vs.sl (by_ s) 84 128)).1).size ≤ _; rw [Vs.bs_size]; omega) (by rw [HD.out]; show (bs (Vs.sl (by_ s) 440 (Pm.at_ (by_ s) 264 4))).size ≤ _; omega))
  generalize Vs.p3E (by_ s) d = E at *
  generalize Vs.okLog (Vs.p3D (by_ s) d) = ok at *
  rw [HD.out] at CL
  generalize Vs.p3D (by_ s) d = D' at *
  have hk1 := (Array.getElem?_eq_some_iff.1 h1).1
  have hk2 := (Array.getElem?_eq_some_iff.1 h2).1
  have HK1 := Lib.hid hk1
  have HK2 := Lib.hid hk2
  have HNE := Lib.hid hne
  have HTB := Lib.hid h1
  have HR1 := Lib.hid (fun W' (h : Below W.heap.size W W') => (h.block tb HK1.out).trans h1)
  have HR2 := Lib.hid (fun W' (h : Below W.heap.size W W') => (h.block db HK2.out).trans h2)
  have HTW := Lib.hid (fun W' (h : Vs.Prs W W' db) => Kit.tabs_below hT (hB0.trans (h.bel _ hdb hB0.size)))
  generalize Cs.parseR (Vs.sl (by_ s) 84 128) = pr at *
  obtain ⟨ps, pe⟩ := pr
  simp only [] at *
  generalize bs ps = q at *
  generalize bs (Vs.sl (by_ s) 440 (Pm.at_ (by_ s) 264 4)) = tl at *
  have hb264 := Pm.at_lt (by_ s) 264 4
  have hb212 := Pm.at_lt (by_ s) 212 4
  generalize Pm.at_ (by_ s) 264 4 = sz at *
  generalize Pm.at_ (by_ s) 212 4 = a212 at *
  generalize Pm.at_ (by_ s) 248 4 = a248 at *
  generalize ((Pm.at_ (by_ s) 252 4 : Nat) : Int) = b' at *
  generalize ((Pm.at_ (by_ s) 256 2 : Nat) : Int) = p' at *
  generalize ((Pm.at_ (by_ s) 268 4 : Nat) : Int) = m' at *
  generalize ((Pm.at_ (by_ s) (432 + 4) 4 : Nat) : Int) = i1 at *
  generalize ((Pm.at_ (by_ s) 432 4 / 2048 : Nat) : Int) = i2 at *
  have hs1 : (s.size : Int) = 2048 := by omega
  have hszI : (sz : Int) < 4294967296 := by omega
  clear hpl b1 b2 z1 z2 h1 h2 hk1 hk2 hs hT hB0 hdb hdl hb264
  obtain ⟨⟨name, set, pub, prep, app, n, dd, tm⟩, ⟨pn, pa, psx, pc, pbs, pbc⟩, maps, table, fk, fl, fb, fp, ist, ic⟩ := d
  unfold Vs.dC at *
  simp only [] at *
  obtain ⟨k', hk'⟩ : ∃ k' : Int, ((a248 / 1073741824 : Nat) : Int) = k' := ⟨_, rfl⟩
  obtain ⟨l', hl'⟩ : ∃ l' : Int, ((a248 % 1073741824 : Nat) : Int) = l' := ⟨_, rfl⟩
  rw [hk', hl'] at CD CL HD
  clear hk' hl'
  obtain ⟨X, hX⟩ : ∃ X : List Pm.X, (if a248 % 1073741824 = 0 then [] else [(⟨k', l', b', p'⟩ : Pm.X)]) = X := ⟨_, rfl⟩
  rw [hX] at CD
  have HX := Lib.hid hX
  clear hX
  have HROW := Lib.hid (fun (w5 : World) (h : w5.heap[db]? = some (.cells #[.string name, .string set, .string pub, .string prep, .string app, .int .i64 n, .int .i64 dd, .int .i64 tm, .int .i64 pn, .int .i64 pa, .int .i64 psx, .int .i64 pc, .int .i64 pbs, .int .i64 pbc, .int .i64 maps, .string table, .int .i64 fk, .int .i64 fl, .int .i64 fb, .int .i64 fp, .int .i64 ist, .int .i64 ic] 46 (0, 0))) => by
    have r0 : (w5.setCell ⟨db, 0, none⟩ (.string q)).heap[db]? = some (.cells #[.string q, .string set, .string pub, .string prep, .string app, .int .i64 n, .int .i64 dd, .int .i64 tm, .int .i64 pn, .int .i64 pa, .int .i64 psx, .int .i64 pc, .int .i64 pbs, .int .i64 pbc, .int .i64 maps, .string table, .int .i64 fk, .int .i64 fl, .int .i64 fb, .int .i64 fp, .int .i64 ist, .int .i64 ic] 46 (0, 0)) := heap_setCell_same _ _ 0 _ _ _ h
    have r1 : ((w5.setCell ⟨db, 0, none⟩ (.string q)).setCell ⟨db, 16, none⟩ (.int .i64 k')).heap[db]? = some (.cells #[.string q, .string set, .string pub, .string prep, .string app, .int .i64 n, .int .i64 dd, .int .i64 tm, .int .i64 pn, .int .i64 pa, .int .i64 psx, .int .i64 pc, .int .i64 pbs, .int .i64 pbc, .int .i64 maps, .string table, .int .i64 k', .int .i64 fl, .int .i64 fb, .int .i64 fp, .int .i64 ist, .int .i64 ic] 46 (0, 0)) := heap_setCell_same _ _ 16 _ _ _ r0
    have r2 : (((w5.setCell ⟨db, 0, none⟩ (.string q)).setCell ⟨db, 16, none⟩ (.int .i64 k')).setCell ⟨db, 17, none⟩ (.int .i64 l')).heap[db]? = some (.cells #[.string q, .string set, .string pub, .string prep, .string app, .int .i64 n, .int .i64 dd, .int .i64 tm, .int .i64 pn, .int .i64 pa, .int .i64 psx, .int .i64 pc, .int .i64 pbs, .int .i64 pbc, .int .i64 maps, .string table, .int .i64 k', .int .i64 l', .int .i64 fb, .int .i64 fp, .int .i64 ist, .int .i64 ic] 46 (0, 0)) := heap_setCell_same _ _ 17 _ _ _ r1
    have r3 : ((((w5.setCell ⟨db, 0, none⟩ (.string q)).setCell ⟨db, 16, none⟩ (.int .i64 k')).setCell ⟨db, 17, none⟩ (.int .i64 l')).setCell ⟨db, 18, none⟩ (.int .i64 b')).heap[db]? = some (.cells #[.string q, .string set, .string pub, .string prep, .string app, .int .i64 n, .int .i64 dd, .int .i64 tm, .int .i64 pn, .int .i64 pa, .int .i64 psx, .int .i64 pc, .int .i64 pbs, .int .i64 pbc, .int .i64 maps, .string table, .int .i64 k', .int .i64 l', .int .i64 b', .int .i64 fp, .int .i64 ist, .int .i64 ic] 46 (0, 0)) := heap_setCell_same _ _ 18 _ _ _ r2
    have r4 : (((((w5.setCell ⟨db, 0, none⟩ (.string q)).setCell ⟨db, 16, none⟩ (.int .i64 k')).setCell ⟨db, 17, none⟩ (.int .i64 l')).setCell ⟨db, 18, none⟩ (.int .i64 b')).setCell ⟨db, 19, none⟩ (.int .i64 p')).heap[db]? = some (.cells #[.string q, .string set, .string pub, .string prep, .string app, .int .i64 n, .int .i64 dd, .int .i64 tm, .int .i64 pn, .int .i64 pa, .int .i64 psx, .int .i64 pc, .int .i64 pbs, .int .i64 pbc, .int .i64 maps, .string table, .int .i64 k', .int .i64 l', .int .i64 b', .int .i64 p', .int .i64 ist, .int .i64 ic] 46 (0, 0)) := heap_setCell_same _ _ 19 _ _ _ r3
    have r5 : ((((((w5.setCell ⟨db, 0, none⟩ (.string q)).setCell ⟨db, 16, none⟩ (.int .i64 k')).setCell ⟨db, 17, none⟩ (.int .i64 l')).setCell ⟨db, 18, none⟩ (.int .i64 b')).setCell ⟨db, 19, none⟩ (.int .i64 p')).setCell ⟨db, 14, none⟩ (.int .i64 m')).heap[db]? = some (.cells #[.string q, .string set, .string pub, .string prep, .string app, .int .i64 n, .int .i64 dd, .int .i64 tm, .int .i64 pn, .int .i64 pa, .int .i64 psx, .int .i64 pc, .int .i64 pbs, .int .i64 pbc, .int .i64 m', .string table, .int .i64 k', .int .i64 l', .int .i64 b', .int .i64 p', .int .i64 ist, .int .i64 ic] 46 (0, 0)) := heap_setCell_same _ _ 14 _ _ _ r4
    have r6 : (((((((w5.setCell ⟨db, 0, none⟩ (.string q)).setCell ⟨db, 16, none⟩ (.int .i64 k')).setCell ⟨db, 17, none⟩ (.int .i64 l')).setCell ⟨db, 18, none⟩ (.int .i64 b')).setCell ⟨db, 19, none⟩ (.int .i64 p')).setCell ⟨db, 14, none⟩ (.int .i64 m')).setCell ⟨db, 15, none⟩ (.string tl)).heap[db]? = some (.cells #[.string q, .string set, .string pub, .string prep, .string app, .int .i64 n, .int .i64 dd, .int .i64 tm, .int .i64 pn, .int .i64 pa, .int .i64 psx, .int .i64 pc, .int .i64 pbs, .int .i64 pbc, .int .i64 m', .string tl, .int .i64 k', .int .i64 l', .int .i64 b', .int .i64 p', .int .i64 ist, .int .i64 ic] 46 (0, 0)) := heap_setCell_same _ _ 15 _ _ _ r5
    have r7 : ((((((((w5.setCell ⟨db, 0, none⟩ (.string q)).setCell ⟨db, 16, none⟩ (.int .i64 k')).setCell ⟨db, 17, none⟩ (.int .i64 l')).setCell ⟨db, 18, none⟩ (.int .i64 b')).setCell ⟨db, 19, none⟩ (.int .i64 p')).setCell ⟨db, 14, none⟩ (.int .i64 m')).setCell ⟨db, 15, none⟩ (.string tl)).setCell ⟨db, 20, none⟩ (.int .i64 i1)).heap[db]? = some (.cells #[.string q, .string set, .string pub, .string prep, .string app, .int .i64 n, .int .i64 dd, .int .i64 tm, .int .i64 pn, .int .i64 pa, .int .i64 psx, .int .i64 pc, .int .i64 pbs, .int .i64 pbc, .int .i64 m', .string tl, .int .i64 k', .int .i64 l', .int .i64 b', .int .i64 p', .int .i64 i1, .int .i64 ic] 46 (0, 0)) := heap_setCell_same _ _ 20 _ _ _ r6
    have r8 : (((((((((w5.setCell ⟨db, 0, none⟩ (.string q)).setCell ⟨db, 16, none⟩ (.int .i64 k')).setCell ⟨db, 17, none⟩ (.int .i64 l')).setCell ⟨db, 18, none⟩ (.int .i64 b')).setCell ⟨db, 19, none⟩ (.int .i64 p')).setCell ⟨db, 14, none⟩ (.int .i64 m')).setCell ⟨db, 15, none⟩ (.string tl)).setCell ⟨db, 20, none⟩ (.int .i64 i1)).setCell ⟨db, 21, none⟩ (.int .i64 i2)).heap[db]? = some (.cells #[.string q, .string set, .string pub, .string prep, .string app, .int .i64 n, .int .i64 dd, .int .i64 tm, .int .i64 pn, .int .i64 pa, .int .i64 psx, .int .i64 pc, .int .i64 pbs, .int .i64 pbc, .int .i64 m', .string tl, .int .i64 k', .int .i64 l', .int .i64 b', .int .i64 p', .int .i64 i1, .int .i64 i2] 46 (0, 0)) := heap_setCell_same _ _ 21 _ _ _ r7
    exact r8)
  have HLD := Lib.hid (fun (W4 : World) (h : W4.heap[db]? = some (.cells #[.string q, .string set, .string pub, .string prep, .string app, .int .i64 n, .int .i64 dd, .int .i64 tm, .int .i64 pn, .int .i64 pa, .int .i64 psx, .int .i64 pc, .int .i64 pbs, .int .i64 pbc, .int .i64 m', .string tl, .int .i64 k', .int .i64 l', .int .i64 b', .int .i64 p', .int .i64 i1, .int .i64 i2] 46 (0, 0))) => (show (loadVar 46 ⟨db, 0, none⟩).run Tryz.prog W4 = .ok (.agg #[.string q, .string set, .string pub, .string prep, .string app, .int .i64 n, .int .i64 dd, .int .i64 tm, .int .i64 pn, .int .i64 pa, .int .i64 psx, .int .i64 pc, .int .i64 pbs, .int .i64 pbc, .int .i64 m', .string tl, .int .i64 k', .int .i64 l', .int .i64 b', .int .i64 p', .int .i64 i1, .int .i64 i2]) W4 from load_row (P := Tryz.prog) (n := 22) 46 _ h Tryz.underlying46 rfl (by kernel_rfl) (show 0 + 22 ≤ 22 from Nat.le_refl _)))
  go_enter Tryz.func140, Tryz.ntmps140
  go_wp2_with fail
  with_reducible refine (C0.out _).mono ?_
  rintro e wx ⟨rfl, hw⟩
  subst hw
  by_cases h212 : a212 = 2048
  case neg =>
    have HE2 := Lib.hid (HE.out.trans (if_pos h212))
    have d1 : ((a212 : Int) != 2048) = true := by rw [bne_iff_ne]; omega
    clear HE
    go_wp2_with fail
    go_ret
    rw [HE2.out]
    exact ⟨rfl, fun h => absurd h (by decide), Vs.Prs.refl _ _⟩
  have HE1 := Lib.hid (HE.out.trans (if_neg (by simp [h212])))
  have d0 : ((a212 : Int) != 2048) = false := by rw [bne_eq_false_iff_eq]; omega
  clear HE h212 hb212
  go_wp2_with fail
  clear d0
  with_reducible refine (CP.out _).mono ?_
  rintro e w2 ⟨rfl, hb2⟩
  have HB2 := Lib.hid hb2
  clear hb2
  go_wp2_with fail
  with_reducible refine (CD.out _).mono ?_
  rintro e w3 ⟨v, rfl, ho, hb3⟩
  have HB3 := Lib.hid (HB2.out.trans (hb3.mono HB2.out.size))
  have hw23 := HB2.out.size
  clear hb3
  obtain ⟨A, c, rfl⟩ := own_shape ho
  have HO := Lib.hid ho
  have HW23 := Lib.hid hw23
  clear ho hw23
  go_wp2_with fail
  with_reducible refine (C1.out _).mono ?_
  rintro e wx ⟨rfl, hw⟩
  subst hw
  by_cases hpe : pe = 0
  case neg =>
    have HE2 := Lib.hid (HE1.out.trans (if_pos (.inl hpe)))
    have d1 : (pe != 0) = true := by rw [bne_iff_ne]; exact hpe
    clear HE1 hpe
    go_wp2_with fail
    go_ret
    rw [HE2.out]
    exact ⟨rfl, fun h => absurd h (by decide), (Vs.Prs.refl W db).below HB3.out⟩
  subst hpe
  by_cases h0 : a248 % 1073741824 = 0
  · have HE2 := Lib.hid (HE1.out.trans (if_pos (.inr (.inl h0))))
    obtain rfl : X = [] := HX.out.symm.trans (if_pos h0)
    simp only [List.length_nil]
    clear HE1 HO HX h0
    go_wp2_with fail
    go_ret
    rw [HE2.out]
    exact ⟨rfl, fun h => absurd h (by decide), (Vs.Prs.refl W db).below HB3.out⟩
  by_cases hsz : sz ≤ 1608
  case neg =>
    have HE2 := Lib.hid (HE1.out.trans (if_pos (.inr (.inr (by omega)))))
    have d1 : decide ((1608 : Int) < (sz : Int)) = true := decide_eq_true (by omega)
    have d2 : (1608 : Int) < (sz : Int) := by omega
    obtain rfl : X = [⟨k', l', b', p'⟩] := HX.out.symm.trans (if_neg h0)
    simp only [List.length_cons, List.length_nil]
    clear HE1 HO HX h0 hsz
    go_wp2_with fail
    go_ret
    rw [HE2.out]
    exact ⟨rfl, fun h => absurd h (by decide), (Vs.Prs.refl W db).below HB3.out⟩
  have HE2 := Lib.hid (HE1.out.trans (if_neg (fun h => by rcases h with h | h | h <;> first | exact h rfl | exact h0 h | omega)))
  clear HE1
  obtain rfl : X = [⟨k', l', b', p'⟩] := HX.out.symm.trans (if_neg h0)
  have ho := HO.out
  have hw23 := HW23.out
  simp only [List.length_cons, List.length_nil, Nat.zero_add] at ho ⊢
  obtain ⟨g, cap, hv, hg0, hg1, hcap, cg0, cg1, cg2, cg3⟩ := Vs.OwnX.one ho
  cases hv
  simp only [] at cg0 cg1 cg2 cg3
  obtain ⟨et, htl⟩ := HTL.out hsz
  have HTZ := Lib.hid htl
  have d1 : decide ((1608 : Int) < (sz : Int)) = false := decide_eq_false (by omega)
  have d2 : (sz : Int) ≤ 1608 := by omega
  have hgd : db ≠ g := by have := HK2.out; omega
  have htd : db ≠ tb := fun e => HNE.out e.symm
  have HG1 := Lib.hid hg1
  have HG0 := Lib.hid cg0
  have HG0' := Lib.hid cg1
  have HG2 := Lib.hid cg2
  have HG3 := Lib.hid cg3
  have cT := cell_of_row _ _ 0 _ _ _ (HR1.out _ HB3.out)
  simp only [List.getElem?_toArray, List.getElem?_cons_zero] at cT
  clear ho HO HX HW23 h0 hsz htl hw23 hg0 hg1 HTL CP CD C0 C1 hne
  have HBD := Lib.hid (show Below W.heap.size W w3.drew from HB3.out.drew)
  go_upto_region 8 with fail
  obtain ⟨mm, hmm⟩ : ∃ mm : Nat, mm = 440 + sz := ⟨_, rfl⟩
  rw [← hmm] at et
  have hmI : (440 : Int) + (sz : Int) = (mm : Int) := by omega
  have hwr : IntKind.i64.wrap ((440 : Int) + (sz : Int)) = (mm : Int) := by rw [hmI]; exact IntWalk.i64_in _ (by omega)
  have hm1 : (440 : Int) ≤ (mm : Int) := by omega
  have hm3 : (mm : Int) ≤ 2048 := by omega
  have hm4 : IntKind.i64.wrap (mm : Int) = (mm : Int) := IntWalk.i64_in _ (by omega)
  have hm5 : 440 ≤ mm := by omega
  have hm6 : mm ≤ s.size := by omega
  have hm2 : (mm : Int) ≤ (s.size : Int) := by omega
  clear d1 d2 hs1 e1 e2 hmm hszI
  go_region_held3 (fun w' => w'.cell? ⟨tb, 0, none⟩ = some (.pointer (some ⟨db, 0, none⟩)) ∧ w'.cell? ⟨g, 0, none⟩ = some (.int .i64 k') ∧ w'.cell? ⟨g, 1, none⟩ = some (.int .i64 l') ∧ w'.cell? ⟨g, 2, none⟩ = some (.int .i64 b') ∧ w'.cell? ⟨g, 3, none⟩ = some (.int .i64 p')) (first | go_keep | with_reducible exact ⟨hs0, hs1', hs2, hs3, hs4⟩) (first
    | (go_at_call 83; refine (C2.out _).mono ?_; rintro e wx ⟨rfl, hw⟩; subst hw)
    | (go_at_call 54; refine (CX.out w3.drew).mono ?_; rintro e w5 ⟨rfl, hb5⟩; have HB5 := Lib.hid (HBD.out.trans (hb5.mono HBD.out.size)); have hs0 := (cell_of_row _ _ 0 _ _ _ (HR1.out _ HB5.out)); have hs1' := (hb5.cell (p := ⟨g, 0, none⟩) HG1.out).trans HG0.out; have hs2 := (hb5.cell (p := ⟨g, 1, none⟩) HG1.out).trans HG0'.out; have hs3 := (hb5.cell (p := ⟨g, 2, none⟩) HG1.out).trans HG2.out; have hs4 := (hb5.cell (p := ⟨g, 3, none⟩) HG1.out).trans HG3.out; have c0 := cell_of_row _ _ 0 _ _ _ (HR2.out _ HB5.out); have c14 := cell_of_row _ _ 14 _ _ _ (HR2.out _ HB5.out); have c15 := cell_of_row _ _ 15 _ _ _ (HR2.out _ HB5.out); have c16 := cell_of_row _ _ 16 _ _ _ (HR2.out _ HB5.out); have c17 := cell_of_row _ _ 17 _ _ _ (HR2.out _ HB5.out); have c18 := cell_of_row _ _ 18 _ _ _ (HR2.out _ HB5.out); have c19 := cell_of_row _ _ 19 _ _ _ (HR2.out _ HB5.out); have c20 := cell_of_row _ _ 20 _ _ _ (HR2.out _ HB5.out); have c21 := cell_of_row _ _ 21 _ _ _ (HR2.out _ HB5.out); have hfj := fun j => frozen_of_row _ _ j _ _ (HR2.out _ HB5.out); simp only [List.getElem?_toArray, List.getElem?_cons_zero, List.getElem?_cons_succ] at hs0 c0 c14 c15 c16 c17 c18 c19 c20 c21; clear hb5))
  all_goals
    have HW4 := Lib.hid (HROW.out _ (HR2.out _ HB5.out))
    have HP4 := Lib.hid (((((((((((Vs.Prs.refl W db).below HB5.out).set (j := 0) (.string q)).set (j := 16) (.int .i64 k')).set (j := 17) (.int .i64 l')).set (j := 18) (.int .i64 b')).set (j := 19) (.int .i64 p')).set (j := 14) (.int .i64 m')).set (j := 15) (.string tl)).set (j := 20) (.int .i64 i1)).set (j := 21) (.int .i64 i2))
    go_upto_region 9 with fail
    generalize (((((((((w5.setCell ⟨db, 0, none⟩ (.string q)).setCell ⟨db, 16, none⟩ (.int .i64 k')).setCell ⟨db, 17, none⟩ (.int .i64 l')).setCell ⟨db, 18, none⟩ (.int .i64 b')).setCell ⟨db, 19, none⟩ (.int .i64 p')).setCell ⟨db, 14, none⟩ (.int .i64 m')).setCell ⟨db, 15, none⟩ (.string tl)).setCell ⟨db, 20, none⟩ (.int .i64 i1)).setCell ⟨db, 21, none⟩ (.int .i64 i2)) = W4 at *
    clear c0 c14 c15 c16 c17 c18 c19 c20 c21 hfj hs0 hs1' hs2 hs3 hs4
    have cT4 := cell_of_row _ _ 0 _ _ _ ((HP4.out.keep tb HK1.out HNE.out).trans HTB.out)
    simp only [List.getElem?_toArray, List.getElem?_cons_zero] at cT4
    go_wp2_with (refine wpList_load_at 46 _ rfl db 0 rfl _ (HLD.out _ HW4.out) (by rfl) ?_)
    with_reducible refine (CL.out _ (HTW.out _ HP4.out) HTZ.out).mono ?_
    rintro e w6 ⟨rfl, hb6⟩
    have HW5 := Lib.hid ((hb6.block db (Array.getElem?_eq_some_iff.1 HW4.out).1).trans HW4.out)
    have HP5 := Lib.hid (HP4.out.below hb6)
    clear hb6 cT4
    cases ok with
    | false =>
      have HE3 := Lib.hid (HE2.out.trans (if_neg (by decide)))
      clear HE2
      go_wp2_with fail
      go_ret
      rw [HE3.out, HD.out]
      exact ⟨rfl, fun _ => HW5.out, HP5.out⟩
    | true =>
      have HE3 := Lib.hid (HE2.out.trans (if_pos rfl))
      clear HE2
      go_wp2_with fail
      go_ret
      rw [HE3.out, HD.out]
      exact ⟨rfl, fun _ => HW5.out, HP5.out⟩
end Go.Proofs.YthkppbimkjmbnaaGreatDoor

/-
  The walk through volumeseq.parsers.
-/
namespace Go.Proofs.YthkppbimkjmbnaaGreatDoor
open Go.RowKit
namespace Vs
/-- The slice of the three parsers: the box of their pointer, and the row. -/
def prsW (W : World) (db : Nat) : World := (W.alloc (.cells #[.pointer (some ⟨db, 0, none⟩)] 113)).alloc (.cells #[.func (.func 137) #[] #[.pointer (some ⟨W.heap.size, 0, none⟩)], .func (.func 138) #[] #[.pointer (some ⟨W.heap.size, 0, none⟩)], .func (.func 140) #[] #[.pointer (some ⟨W.heap.size, 0, none⟩)]] 114)
end Vs
set_option maxHeartbeats 1600000 in
set_option maxRecDepth 100000 in
/-- parsers. -/
theorem parsers_any (W : World) (db : Nat) : Calls Tryz.prog 84 #[.pointer (some ⟨db, 0, none⟩)] W fun e W' => e = .returned (.slice (some ⟨W.heap.size + 1, 0, none⟩) 3 3) ∧ W' = Vs.prsW W db := by
  go_enter Tryz.func84, Tryz.ntmps84
  go_wp2_with fail
  go_ret
  exact ⟨rfl, rfl⟩
end Go.Proofs.YthkppbimkjmbnaaGreatDoor

/-
  Plain: the scan of a sequence, round by round; the three parsers one after the other; no program in sight.
-/
namespace Go.Proofs.YthkppbimkjmbnaaGreatDoor
namespace Vs
theorem drop_at {l : List ByteArray} {j : Nat} (h : j < l.length) : l.drop j = l.getD j ⟨#[]⟩ :: l.drop (j + 1) := by
  rw [List.drop_eq_getElem_cons h]
  simp [List.getD, h]
theorem scan_out (loc : Int) {l : List ByteArray} {j : Nat} (h : ¬ j < l.length) (f : Int → Option Pv) : scan loc (l.drop j) j f = .ok f j := by
  rw [List.drop_eq_nil_of_le (by omega)]
  rfl
theorem scan_cons (loc : Int) {l : List ByteArray} {j : Nat} (h : j < l.length) (f : Int → Option Pv) : scan loc (l.drop j) j f =
    if endB (l.getD j ⟨#[]⟩) = true then .ok f j else if by_ (l.getD j ⟨#[]⟩) = [33] then .err j 9 else if goodB (l.getD j ⟨#[]⟩) (loc + j) = true then
      (if idB (l.getD j ⟨#[]⟩) = 8 then .ok (upd f (idB (l.getD j ⟨#[]⟩)) ⟨l.getD j ⟨#[]⟩, j, sqB (l.getD j ⟨#[]⟩)⟩) (j + 1) else scan loc (l.drop (j + 1)) (j + 1) (upd f (idB (l.getD j ⟨#[]⟩)) ⟨l.getD j ⟨#[]⟩, j, sqB (l.getD j ⟨#[]⟩)⟩))
    else .err j 10 := by
  rw [drop_at h]
  rfl
theorem upd_none {f : Int → Option Pv} {id : Int} {x : Pv} (h : f id = none) : upd f id x = fun j => if j = id then some x else f j := by
  unfold upd
  rw [h]
theorem upd_some {f : Int → Option Pv} {id : Int} {x o : Pv} (h : f id = some o) : upd f id x = if o.seq < x.seq then (fun j => if j = id then some x else f j) else f := by
  unfold upd
  rw [h]
/-- What is found is a whole block. -/
def Whole (f : Int → Option Pv) : Prop := ∀ k x, f k = some x → x.block.size = 2048
theorem Whole.nil : Whole (fun _ => none) := fun k x h => by cases h
theorem Whole.put {f : Int → Option Pv} (h : Whole f) (id : Int) {x : Pv} (hx : x.block.size = 2048) : Whole (fun j => if j = id then some x else f j) := fun k y hy => by
  simp only [] at hy
  split at hy
  · cases hy
    exact hx
  · exact h k y hy
theorem idB_bd (b : ByteArray) : 0 ≤ idB b ∧ idB b < 65536 := by
  unfold idB
  have h := Pm.at_lt (by_ b) 0 2
  have : 256 ^ 2 = 65536 := rfl
  omega
/-- The identifiers that are wanted; the parsers. -/
def idI (i : Nat) : Int := if i = 0 then 1 else if i = 1 then 5 else 6
def bI (a b c : Pv) (i : Nat) : Pv := if i = 0 then a else if i = 1 then b else c
def dI (a b c : Pv) (i : Nat) : D := if i = 0 then d0 else if i = 1 then p1D (by_ a.block) d0 else if i = 2 then p2D (by_ b.block) (p1D (by_ a.block) d0) else p3D (by_ c.block) (p2D (by_ b.block) (p1D (by_ a.block) d0))
def eI (a b c : Pv) (i : Nat) : Int := if i = 0 then p1E (by_ a.block) d0 else if i = 1 then p2E (by_ b.block) else p3E (by_ c.block) (p2D (by_ b.block) (p1D (by_ a.block) d0))
theorem par3_err {a b c : Pv} {i : Nat} (hi : i < 3) (h : ∀ j, j < i → eI a b c j = 0) (he : eI a b c i ≠ 0) : par3 a b c = ((d0, ((bI a b c i).index : Int)), eI a b c i) := by
  have hc : i = 0 ∨ i = 1 ∨ i = 2 := by omega
  rcases hc with rfl | rfl | rfl
  · exact if_pos he
  · exact (if_neg (fun g => g (h 0 (by omega)))).trans (if_pos he)
  · exact (if_neg (fun g => g (h 0 (by omega)))).trans ((if_neg (fun g => g (h 1 (by omega)))).trans (if_pos he))
theorem par3_ok {a b c : Pv} (h : ∀ j, j < 3 → eI a b c j = 0) : par3 a b c = ((dI a b c 3, 0), 0) :=
  (if_neg (fun g => g (h 0 (by omega)))).trans ((if_neg (fun g => g (h 1 (by omega)))).trans (if_neg (fun g => g (h 2 (by omega)))))
theorem parS_miss {f : Int → Option Pv} {n i : Nat} (h : f (idI i) = none) (hi : i < 3) : parS (.ok f n) = ((d0, (n : Int)), 6) := by
  have hc : i = 0 ∨ i = 1 ∨ i = 2 := by omega
  show (match f 1, f 5, f 6 with
    | some a, some b, some c => par3 a b c
    | _, _, _ => ((d0, (n : Int)), 6)) = _
  rcases hc with rfl | rfl | rfl
  · have h' : f 1 = none := h
    rw [h']
  · have h' : f 5 = none := h
    rw [h']
    cases f 1 <;> rfl
  · have h' : f 6 = none := h
    rw [h']
    cases f 1 <;> cases f 5 <;> rfl
theorem parS_all {f : Int → Option Pv} {n : Nat} {a b c : Pv} (h1 : f 1 = some a) (h5 : f 5 = some b) (h6 : f 6 = some c) : parS (.ok f n) = par3 a b c := by
  show (match f 1, f 5, f 6 with
    | some a, some b, some c => par3 a b c
    | _, _, _ => ((d0, (n : Int)), 6)) = _
  rw [h1, h5, h6]
theorem bI_at {f : Int → Option Pv} {a b c : Pv} (h1 : f 1 = some a) (h5 : f 5 = some b) (h6 : f 6 = some c) {i : Nat} (hi : i < 3) : f (idI i) = some (bI a b c i) := by
  have hc : i = 0 ∨ i = 1 ∨ i = 2 := by omega
  rcases hc with rfl | rfl | rfl
  · exact h1
  · exact h5
  · exact h6
end Vs
end Go.Proofs.YthkppbimkjmbnaaGreatDoor

/-
  The walk through volumeseq.ParseSequence: its boxes; the ways out before the scan.
-/
namespace Go.Proofs.YthkppbimkjmbnaaGreatDoor
set_option linter.unusedVariables false
open Go.RowKit Go.Maps
open Vs (bs by_)
namespace Vs
theorem heap_setCells_row {g : Nat} {t : TypeId} : ∀ (vs pre post : List Value) (W : World), post.length = vs.length → W.heap[g]? = some (.cells (pre ++ post).toArray t (0, 0)) → (W.setCells g pre.length vs).heap[g]? = some (.cells (pre ++ vs).toArray t (0, 0))
  | [], pre, post, W, hl, h => by
    have e : post = [] := List.eq_nil_of_length_eq_zero hl
    subst e
    exact h
  | v :: vs, pre, [], W, hl, h => by cases hl
  | v :: vs, pre, p :: post, W, hl, h => by
    show ((W.setCell ⟨g, pre.length, none⟩ v).setCells g (pre.length + 1) vs).heap[g]? = _
    have h1 := heap_setCell_same W g pre.length _ _ v h
    have h2 : (pre ++ p :: post).toArray.setIfInBounds pre.length v = ((pre ++ [v]) ++ post).toArray := by simp
    rw [h2] at h1
    have h3 := heap_setCells_row vs (pre ++ [v]) post _ (by simpa using hl) h1
    rw [List.length_append, List.length_singleton, List.append_assoc] at h3
    exact h3
/-- A row is overwritten whole. -/
theorem row_put {W : World} {g : Nat} {t : TypeId} {old cs : Array Value} (h : W.heap[g]? = some (.cells old t (0, 0))) (hl : old.size = cs.size) : (W.setCells g 0 cs.toList).heap[g]? = some (.cells cs t (0, 0)) := by
  have := heap_setCells_row (g := g) (t := t) cs.toList [] old.toList W (by simpa using hl) (by simpa using h)
  simpa using this
theorem row_there {W : World} {g : Nat} {t : TypeId} {cs : Array Value} {n : Nat} (h : W.heap[g]? = some (.cells cs t (0, 0))) (hn : n = cs.size) : W.there g 0 n := fun j hj => by
  subst hn
  rw [Nat.zero_add]
  exact ⟨by rw [cell_of_row _ _ j _ _ _ h]; simp [hj], frozen_of_row _ _ j _ _ h⟩
theorem run_put {P : Program} {W : World} {g : Nat} {t : TypeId} {old : Array Value} (h : W.heap[g]? = some (.cells old t (0, 0))) (cs : Array Value) (hl : old.size = cs.size) (h1 : cs.all (·.oneCell') = true) : (storeCells ⟨g, 0, none⟩ cs.toList).run P W = .ok () (W.setCells g 0 cs.toList) := by
  have ht := row_there h (n := cs.size) hl.symm
  have := run_storeCells_cells (P := P) g 0 cs.toList 0 W (fun j hj => by simpa using (ht j (by simpa using hj)).1) (fun j hj => by simpa using (ht j (by simpa using hj)).2) (fun v hv => (Array.all_eq_true_iff_forall_mem.1 h1) v (by simpa using hv))
  simpa using this
theorem below_put {b : Nat} {w : World} {g : Nat} (hg : b ≤ g) : ∀ (vs : List Value) (o : Nat) (W : World), Below b w W → Below b w (W.setCells g o vs)
  | [], _, _, h => h
  | v :: vs, o, W, h => below_put hg vs (o + 1) _ (h.setCell (p := ⟨g, o, none⟩) hg v)
theorem heap_put_other {W : World} {g k : Nat} {o : Obj} (vs : List Value) (i : Nat) (hne : k ≠ g) (h : W.heap[k]? = some o) : (W.setCells g i vs).heap[k]? = some o :=
  (World.heap_setCells_other W g i vs (Array.getElem?_eq_some_iff.1 h).1 hne).trans h
theorem dC_one (d : D) : (dC d).all (·.oneCell') = true := by unfold dC; simp [Value.oneCell']
/-- The empty descriptors. -/
def zC : Array Value := #[.string ⟨#[]⟩, .string ⟨#[]⟩, .string ⟨#[]⟩, .string ⟨#[]⟩, .string ⟨#[]⟩, .int .i64 0, .int .i64 0, .int .i64 0, .int .i64 0, .int .i64 0, .int .i64 0, .int .i64 0, .int .i64 0, .int .i64 0, .int .i64 0, .string ⟨#[]⟩, .int .i64 0, .int .i64 0, .int .i64 0, .int .i64 0, .int .i64 0, .int .i64 0]
theorem zC_one : zC.all (·.oneCell') = true := dC_one d0
theorem zC_info : (Tryz.prog.info? 46).map (·.size) = some zC.size := by kernel_rfl
structure PsB (w W : World) (Z : Array Value) : Prop where
  bel : Below w.heap.size w W
  hr : W.heap[w.heap.size]? = some (.cells Z 46 (0, 0))
  hn : W.heap[w.heap.size + 1]? = some (.cells Z 46 (0, 0))
theorem PsB.size {w W : World} {Z : Array Value} (h : PsB w W Z) : w.heap.size + 2 ≤ W.heap.size := by
  have := (Array.getElem?_eq_some_iff.1 h.hn).1
  omega
theorem PsB.grown {w W W' : World} {Z : Array Value} {row : Option Nat} (h : PsB w W Z) (hg : W.grownBy W' row) (hr : ∀ r, row = some r → w.heap.size + 2 ≤ r) : PsB w W' Z := by
  have hs := h.size
  refine ⟨h.bel.grown hg h.bel.size (fun k e => by have := hr k e; omega), (hg.block _ (by omega) (fun e => ?_)).trans h.hr, (hg.block _ (by omega) (fun e => ?_)).trans h.hn⟩
  · have := hr _ e.symm
    omega
  · have := hr _ e.symm
    omega
theorem PsB.below {w W W' : World} {Z : Array Value} (h : PsB w W Z) (hb : Below W.heap.size W W') : PsB w W' Z := h.grown (Kit.grown_of_below hb) (fun r e => by cases e)
/-- The result written. -/
theorem PsB.out {w W : World} {Z X : Array Value} (h : PsB w W Z) (hl : Z.size = X.size) : (W.setCells w.heap.size 0 X.toList).heap[w.heap.size]? = some (.cells X 46 (0, 0)) ∧ Below w.heap.size w (W.setCells w.heap.size 0 X.toList) :=
  ⟨row_put h.hr hl, below_put (Nat.le_refl _) _ _ _ h.bel⟩
theorem PsB.start (w : World) (Z : Array Value) : PsB w (((w.alloc (.cells Z 46)).alloc (.cells Z 46)).setCells (w.heap.size + 1) 0 Z.toList) Z := by
  have hb := ((Below.refl w.heap.size w).alloc (Nat.le_refl _) (.cells Z 46)).alloc (by simp) (.cells Z 46)
  exact ⟨below_put (by omega) _ _ _ hb, heap_put_other _ _ (by omega) (heap_alloc2_old w _ _), row_put (heap_alloc2_new w _ _) rfl⟩
/-- The struct in a box is read whole. -/
theorem box_load {W : World} {g : Nat} (d : D) {Z : Array Value} (hZ : Z = dC d) (h : W.heap[g]? = some (.cells Z 46 (0, 0))) : (loadVar 46 ⟨g, 0, none⟩).run Tryz.prog W = .ok (.agg Z) W := by
  subst hZ
  have := load_row (P := Tryz.prog) (n := 22) 46 _ (cs := (dC d).toList) (by simpa using h) Tryz.underlying46 rfl (by kernel_rfl) (Nat.le_refl _)
  simpa [dC] using this
end Vs

set_option maxHeartbeats 3200000 in
set_option maxRecDepth 100000 in
/-- ParseSequence: the location is no word. -/
theorem pseq_range (v : Value) (l : List ByteArray) (loc : Int) (w : World) (hw : Vs.word loc = false) :
    Calls Tryz.prog 26 #[v, .int .i64 loc] w fun e w' => e = .returned (.tuple #[.agg (Vs.dC (Vs.parR l loc).1.1), .int .i64 (Vs.parR l loc).1.2, .int .i64 (Vs.parR l loc).2]) ∧ Below w.heap.size w w' := by
  have HR := Lib.hid (show Vs.parR l loc = ((Vs.d0, 0), 2) from if_pos hw)
  rw [HR.out]
  simp only []
  have CW := Lib.hid (fun W => word_any loc W)
  rw [hw] at CW
  obtain ⟨Z, hZ⟩ : ∃ Z, Z = Vs.zC := ⟨_, rfl⟩
  have hZd : Vs.dC Vs.d0 = Z := hZ.symm
  rw [hZd]
  have HS := Lib.hid (Vs.PsB.start w Z)
  have HZ := Lib.hid (show Z = Vs.dC Vs.d0 from hZ)
  have HZ1 := Lib.hid (show Z.all (·.oneCell') = true by rw [hZ]; exact Vs.zC_one)
  have HZI := Lib.hid (show (Tryz.prog.info? 46).map (·.size) = some Z.size by rw [hZ]; exact Vs.zC_info)
  have HZL := Lib.hid (show (#[.string ⟨#[]⟩, .string ⟨#[]⟩, .string ⟨#[]⟩, .string ⟨#[]⟩, .string ⟨#[]⟩, .int .i64 0, .int .i64 0, .int .i64 0, .int .i64 0, .int .i64 0, .int .i64 0, .int .i64 0, .int .i64 0, .int .i64 0, .int .i64 0, .string ⟨#[]⟩, .int .i64 0, .int .i64 0, .int .i64 0, .int .i64 0, .int .i64 0, .int .i64 0] : Array Value) = Z from hZ.symm)
  have hz22 : Z.size = 22 := by rw [hZ]; rfl
  clear hZ hZd
  clear hw HR
  go_enter Tryz.func26, Tryz.ntmps26
  go_upto_region 1 with fail
  go_upto_region 2 with (refine wpList_store_mid rfl 46 _ _ rfl (w.heap.size + 1) 0 Vs.zC (by rfl) (by rfl) (Vs.row_there (heap_alloc2_new w _ _) rfl) Vs.zC_info Vs.zC_one ?_)
  unfold Vs.zC
  rw [HZL.out]
  generalize (((w.alloc (.cells Z 46)).alloc (.cells Z 46)).setCells (w.heap.size + 1) 0 Z.toList) = W1 at *
  go_wp2_with fail
  with_reducible refine (CW.out _).mono ?_
  rintro e wx ⟨rfl, hx⟩
  subst hx
  have HLD := Lib.hid (Vs.box_load Vs.d0 HZ.out HS.out.hn)
  have hst := Vs.run_put (P := Tryz.prog) HS.out.hr Z rfl HZ1.out
  go_wp2_with (refine wpList_load_at 46 _ rfl (w.heap.size + 1) 0 rfl _ HLD.out (by rfl) ?_)
  exact bodyPost_ret (v := .tuple #[.agg Z, .int .i64 0, .int .i64 2]) (res_ctt rfl _ _ w.heap.size 46 Z (0, 0) _ rfl (HS.out.out rfl).1 Tryz.underlying46 rfl HZI.out _ _ rfl rfl) rfl ⟨rfl, (HS.out.out rfl).2⟩
set_option maxHeartbeats 3200000 in
set_option maxRecDepth 100000 in
/-- ParseSequence: too many blocks. -/
theorem pseq_many (v : Value) (l : List ByteArray) (loc : Int) (w : World) (hv : Kit.Row w v (Vs.strs l)) (hw : Vs.word loc = true) (hl : 1024 < l.length) :
    Calls Tryz.prog 26 #[v, .int .i64 loc] w fun e w' => e = .returned (.tuple #[.agg (Vs.dC (Vs.parR l loc).1.1), .int .i64 (Vs.parR l loc).1.2, .int .i64 (Vs.parR l loc).2]) ∧ Below w.heap.size w w' := by
  have HR := Lib.hid (show Vs.parR l loc = ((Vs.d0, 0), 7) from (if_neg (by rw [hw]; decide)).trans (if_pos hl))
  rw [HR.out]
  simp only []
  have CW := Lib.hid (fun W => word_any loc W)
  rw [hw] at CW
  obtain ⟨Z, hZ⟩ : ∃ Z, Z = Vs.zC := ⟨_, rfl⟩
  have hZd : Vs.dC Vs.d0 = Z := hZ.symm
  rw [hZd]
  have HS := Lib.hid (Vs.PsB.start w Z)
  have HZ := Lib.hid (show Z = Vs.dC Vs.d0 from hZ)
  have HZ1 := Lib.hid (show Z.all (·.oneCell') = true by rw [hZ]; exact Vs.zC_one)
  have HZI := Lib.hid (show (Tryz.prog.info? 46).map (·.size) = some Z.size by rw [hZ]; exact Vs.zC_info)
  have HZL := Lib.hid (show (#[.string ⟨#[]⟩, .string ⟨#[]⟩, .string ⟨#[]⟩, .string ⟨#[]⟩, .string ⟨#[]⟩, .int .i64 0, .int .i64 0, .int .i64 0, .int .i64 0, .int .i64 0, .int .i64 0, .int .i64 0, .int .i64 0, .int .i64 0, .int .i64 0, .string ⟨#[]⟩, .int .i64 0, .int .i64 0, .int .i64 0, .int .i64 0, .int .i64 0, .int .i64 0] : Array Value) = Z from hZ.symm)
  have hz22 : Z.size = 22 := by rw [hZ]; rfl
  clear hZ hZd
  obtain ⟨A, c, rfl, hlc, hcm, -⟩ := hv
  rw [Vs.strs_len] at *
  have d1 : decide ((1024 : Int) < (l.length : Int)) = true := decide_eq_true (by omega)
  clear hw HR hlc hcm hl
  go_enter Tryz.func26, Tryz.ntmps26
  go_upto_region 1 with fail
  go_upto_region 2 with (refine wpList_store_mid rfl 46 _ _ rfl (w.heap.size + 1) 0 Vs.zC (by rfl) (by rfl) (Vs.row_there (heap_alloc2_new w _ _) rfl) Vs.zC_info Vs.zC_one ?_)
  unfold Vs.zC
  rw [HZL.out]
  generalize (((w.alloc (.cells Z 46)).alloc (.cells Z 46)).setCells (w.heap.size + 1) 0 Z.toList) = W1 at *
  go_wp2_with fail
  with_reducible refine (CW.out _).mono ?_
  rintro e wx ⟨rfl, hx⟩
  subst hx
  have HLD := Lib.hid (Vs.box_load Vs.d0 HZ.out HS.out.hn)
  have hst := Vs.run_put (P := Tryz.prog) HS.out.hr Z rfl HZ1.out
  go_wp2_with (refine wpList_load_at 46 _ rfl (w.heap.size + 1) 0 rfl _ HLD.out (by rfl) ?_)
  exact bodyPost_ret (v := .tuple #[.agg Z, .int .i64 0, .int .i64 7]) (res_ctt rfl _ _ w.heap.size 46 Z (0, 0) _ rfl (HS.out.out rfl).1 Tryz.underlying46 rfl HZI.out _ _ rfl rfl) rfl ⟨rfl, (HS.out.out rfl).2⟩
end Go.Proofs.YthkppbimkjmbnaaGreatDoor

/-
  The three parsers of a sequence's descriptors, as one family.
-/
namespace Go.Proofs.YthkppbimkjmbnaaGreatDoor
open Go.RowKit Go.Maps
open Vs (bs by_)
/-- A load whose value is known in every world that meets S. -/
theorem yields_load {P : Program} {ops : Array Oper} {S : World → Prop} {op : Oper} {a : Act} (hw : Region.wanted op (yielded ops a.tmps) = true) (ty : TypeId) (x : Operand) (ho : op.op = .load ty x) (g o : Nat) (hx : a.eval x = .pointer (some ⟨g, o, none⟩)) (v : Value) (h : ∀ w, S w → (loadVar ty ⟨g, o, none⟩).run P w = .ok v w) : YieldsIf P ops S op v a :=
  .inl ⟨hw, fun w' hw' => by
    unfold execOp
    simp only [ho, hx, Instr.loadAt, Instr.sureAddr, Sem.run_bind, Sem.run_pure, Result.andThen_ok, h w' hw']⟩
namespace Vs
theorem Prs.grown {W W' : World} {db : Nat} (h : Prs W W' db) : W.grownBy W' (some db) :=
  have hb := h.bel 0 (Nat.zero_le _) (Nat.zero_le _)
  ⟨hb.os, hb.tape, hb.output, hb.size, fun i hi hne => h.keep i hi (fun e => hne (by rw [e]))⟩
theorem Prs.trans {W W1 W2 : World} {db : Nat} (h : Prs W W1 db) (k : Prs W1 W2 db) : Prs W W2 db :=
  ⟨fun i hi hne => (k.keep i (Nat.lt_of_lt_of_le hi h.size) hne).trans (h.keep i hi hne), fun b h1 h2 => (h.bel b h1 h2).trans (k.bel b h1 (Nat.le_trans h2 h.size))⟩
/-- The parsers' functions. -/
def prsF (i : Nat) : FuncId := if i = 0 then 137 else if i = 1 then 138 else 140
theorem prs_enters (i : Nat) : Enters Tryz.prog (prsF i) := by
  unfold prsF
  split
  · exact enters_of Tryz.func137 (by kernel_rfl) rfl
  · split
    · exact enters_of Tryz.func138 (by kernel_rfl) rfl
    · exact enters_of Tryz.func140 (by kernel_rfl) rfl
theorem bI_size {a b c : Pv} (ha : a.block.size = 2048) (hb : b.block.size = 2048) (hc : c.block.size = 2048) (i : Nat) : (bI a b c i).block.size = 2048 := by
  unfold bI
  split
  · exact ha
  · split
    · exact hb
    · exact hc
/-- The cells of parsers' world. -/
theorem prsW_tb (W : World) (db : Nat) : (prsW W db).heap[W.heap.size]? = some (.cells #[.pointer (some ⟨db, 0, none⟩)] 113 (0, 0)) := heap_alloc2_old W _ _
theorem prsW_fn (W : World) (db : Nat) {i : Nat} (hi : i < 3) : (prsW W db).cell? ⟨W.heap.size + 1, i, none⟩ = some (.func (.func (prsF i)) #[] #[.pointer (some ⟨W.heap.size, 0, none⟩)]) := by
  have hc : i = 0 ∨ i = 1 ∨ i = 2 := by omega
  unfold prsW
  rw [cell_of_row _ _ i _ _ _ (heap_alloc2_new W _ _)]
  rcases hc with rfl | rfl | rfl <;> rfl
theorem prsW_below (W : World) (db : Nat) : Below W.heap.size W (prsW W db) := ((Below.refl _ W).alloc (Nat.le_refl _) _).alloc (by simp) _
theorem prsW_size (W : World) (db : Nat) : (prsW W db).heap.size = W.heap.size + 2 := by simp [prsW]
end Vs
theorem prs_any (a b c : Vs.Pv) (ha : a.block.size = 2048) (hb : b.block.size = 2048) (hc : c.block.size = 2048) (w : World) (m : Int) (hT : Lib.Utf8Tabs 1 2 w) (hM : w.cell? ⟨0, 0, none⟩ = some (.int .i64 m)) (tb db : Nat) (hdb : w.heap.size ≤ db) (hne : tb ≠ db)
    (i : Nat) (hi : i < 3) (W : World) (hB : Below w.heap.size w W) (h1 : W.heap[tb]? = some (.cells #[.pointer (some ⟨db, 0, none⟩)] 113 (0, 0))) (h2 : W.heap[db]? = some (.cells (Vs.dC (Vs.dI a b c i)) 46 (0, 0))) :
    Calls Tryz.prog (Vs.prsF i) #[.string (Vs.bI a b c i).block, .pointer (some ⟨tb, 0, none⟩)] W fun e W' => e = .returned (.int .i64 (Vs.eI a b c i)) ∧ (Vs.eI a b c i = 0 → W'.heap[db]? = some (.cells (Vs.dC (Vs.dI a b c (i + 1))) 46 (0, 0))) ∧ Vs.Prs W W' db := by
  have hcs : i = 0 ∨ i = 1 ∨ i = 2 := by omega
  rcases hcs with rfl | rfl | rfl
  · refine (parse1_any a.block ha Vs.d0 w W tb db hT hB hdb h1 h2 hne).mono ?_
    rintro e W' ⟨he, h, hp⟩
    exact ⟨he, fun _ => h, hp⟩
  · exact parse2_any b.block hb _ w W tb db m hM hB hdb h1 h2 hne
  · exact parse3_any c.block hc _ w W tb db hT hB hdb h1 h2 hne
end Go.Proofs.YthkppbimkjmbnaaGreatDoor
