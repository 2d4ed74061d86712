/-
  Plain laws on the reference's decode of a map: no program in sight.
-/
import Derived.Test.YtlcdhlfkffkifaaGreatDoorZA
import Derived.Test.YtlcdhlfkffkifaaGreatDoorZL
import Derived.Test.YtlcdhlfkffkifaaGreatDoorZO
import Derived.Test.YtlcdhlfkffkifaaGreatDoorZQ
import Derived.Test.YtlcdhlfkffkifaaGreatDoorZG
import Derived.Test.YtlcdhlfkffkifaaGreatDoorZD
import Derived.Deep.DrawnRows
import Derived.Test.YtlcdhlfkffkifaaGreatDoorZH
namespace Go.Proofs.YtlcdhlfkffkifaaGreatDoor
namespace Pm

theorem at_take (d : List UInt8) (n a k : Nat) (h : a + k ≤ n) : at_ (d.take n) a k = at_ d a k := by
  unfold at_
  rw [List.drop_take, List.take_take, Nat.min_eq_left (by omega)]
theorem byt_take (d : List UInt8) (n i : Nat) (h : i < n) : Cs.byt (d.take n) i = Cs.byt d i := by
  unfold Cs.byt
  simp [List.getD, h]
theorem tabs_take (d : List UInt8) (n j : Nat) (h : 48 + 4 * j ≤ n) : tabs (d.take n) j = tabs d j := by
  unfold tabs
  refine List.map_congr_left fun i hi => ?_
  have hi' : i < j := by simpa using hi
  rw [at_take d n _ _ (by omega)]
theorem stepB_take (d : List UInt8) : stepB (d.take 64) = stepB d := by
  unfold stepB
  have e : ((d.take 64).drop 4).take 32 = (d.drop 4).take 32 := by
    rw [List.drop_take, List.take_take, Nat.min_eq_left (by omega)]
  rw [e, at_take d 64 40 2 (by omega), at_take d 64 42 1 (by omega), at_take d 64 38 2 (by omega), at_take d 64 40 4 (by omega), at_take d 64 44 4 (by omega), at_take d 64 48 4 (by omega)]
  by_cases hn : at_ d 42 1 < 1 ∨ 4 < at_ d 42 1
  · simp only [if_pos hn]
  · rw [tabs_take d 64 _ (by omega)]
/-- The reference's decode. -/
def rstep (s : List UInt8) : M × Int :=
  if Cs.byt s 0 ≠ 1 ∧ Cs.byt s 0 ≠ 2 then (none, 14)
  else if Cs.byt s 0 = 1 then (if s.length ≠ 6 then (none, 10) else (⟨0, at_ s 4 2, [], 0, 0, 0⟩, 0))
  else if s.length ≠ 64 then (none, 10)
  else ((stepB s).1, (stepB s).2.2)
theorem stepB_size (d : List UInt8) : (stepB d).2.2 = 0 → (stepB d).2.1 = 64 := by
  unfold stepB
  split
  · intro h; cases h
  dsimp only
  split
  · intro h; cases h
  split
  · split
    · intro h; cases h
    split
    · intro h; cases h
    · intro _; rfl
  split
  · intro _; rfl
  · intro _; rfl
theorem rstep_of (d : List UInt8) (n : Nat) (h : ¬ (d.length < 2 ∨ d.length < Cs.byt d 1)) (hn : n = max 2 (Cs.byt d 1)) : rstep (d.take n) = ((stepR d).1, (stepR d).2.2) ∧ ((stepR d).2.2 = 0 → (stepR d).2.1 = n) := by
  have hln : (d.take n).length = n := by rw [List.length_take]; omega
  have h0 : Cs.byt (d.take n) 0 = Cs.byt d 0 := byt_take d n 0 (by omega)
  unfold rstep stepR
  rw [h0, hln, if_neg h]
  by_cases g1 : Cs.byt d 0 = 1
  · rw [if_neg (by omega), if_pos g1, if_pos g1]
    by_cases g6 : Cs.byt d 1 = 6
    · rw [if_neg (by omega), if_pos g6, at_take d n 4 2 (by omega)]
      exact ⟨rfl, fun _ => by show 6 = n; omega⟩
    · rw [if_pos (by omega), if_neg g6]
      exact ⟨rfl, fun h => by cases h⟩
  · by_cases g2 : Cs.byt d 0 = 2
    · rw [if_neg (by omega), if_neg g1, if_neg g1, if_pos g2]
      by_cases g64 : Cs.byt d 1 = 64
      · have hn64 : n = 64 := by omega
        subst hn64
        rw [if_neg (by omega), if_pos g64, stepB_take]
        exact ⟨rfl, stepB_size d⟩
      · rw [if_pos (by omega), if_neg g64]
        exact ⟨rfl, fun h => by cases h⟩
    · rw [if_pos ⟨g1, g2⟩, if_neg g1, if_neg g2]
      exact ⟨rfl, fun h => by cases h⟩
end Pm
end Go.Proofs.YtlcdhlfkffkifaaGreatDoor

/-
  The reference's decode of a map: what its results are read as; its first ways.
-/
namespace Go.Proofs.YtlcdhlfkffkifaaGreatDoor
open Go.RowKit

/-- What the reference's decode's results are read as. -/
theorem rdec_results (tmps : Array Value) (W : World) (g : Nat) (cs : List Value) (y : Value) (h6 : cs.length = 6) (h2 : tmps.getD 2 undef = .pointer (some ⟨g, 0, none⟩)) (h3 : tmps.getD 3 undef = y)
    (hc : ∀ j v, cs[j]? = some v → W.cell? ⟨g, j, none⟩ = some v) : (results Tryz.f32 tmps).run Tryz.prog W = .ok (.tuple #[.agg cs.toArray, y]) W := by
  have hl : (loadCells ⟨g, 0, none⟩ cs.length).run Tryz.prog W = .ok cs.toArray W := run_loadCells_list (P := Tryz.prog) W ⟨g, 0, none⟩ cs (fun j v hv => by rw [Addr.add_lit, Nat.zero_add]; exact hc j v hv)
  rw [h6] at hl
  have ha : ∀ w : World, (isAgg 59).run Tryz.prog w = .ok true w := fun _ => by kernel_rfl
  have hs : ∀ w : World, (sizeOf 59).run Tryz.prog w = .ok 6 w := fun _ => by kernel_rfl
  have hv : (loadVar 59 ⟨g, 0, none⟩).run Tryz.prog W = .ok (.agg cs.toArray) W := by
    simp [loadVar, ha, hs, hl]
  rw [Array.getD_eq_getD_getElem?] at h2 h3
  simp [results, h2, h3, hv, asAddr]
/-- The world at the door: the result's variable. -/
abbrev rdW (w : World) : World := w.alloc (.cells #[.int .i64 0, .int .i64 0, .slice none 0 0, .int .i64 0, .int .i64 0, .int .i64 0] 59)
structure RdAt (w : World) (W : World) : Prop where
  below : Below (w.heap.size + 1) (rdW w) W
  res : ∀ (j : Nat) v, (#[.int .i64 0, .int .i64 0, .slice none 0 0, .int .i64 0, .int .i64 0, .int .i64 0] : Array Value)[j]? = some v → W.cell? ⟨w.heap.size, j, none⟩ = some v
  free : ∀ (j : Nat), W.frozen? ⟨w.heap.size, j, none⟩ = false
  size : w.heap.size + 1 ≤ W.heap.size
theorem RdAt.later {w : World} {W W' : World} (h : RdAt w W) (hb : Below W.heap.size W W') : RdAt w W' := by
  have hs := h.size
  exact ⟨h.below.trans (hb.mono hs), fun j v hv => (hb.cell (p := ⟨w.heap.size, j, none⟩) (by simp; omega)).trans (h.res j v hv), fun j => (hb.frozen (p := ⟨w.heap.size, j, none⟩) (by simp; omega)).trans (h.free j), Nat.le_trans hs hb.size⟩
theorem RdAt.start (w : World) : RdAt w (rdW w) := by
  refine ⟨Below.refl _ _, fun j v hv => ?_, fun j => ?_, by simp⟩
  · unfold rdW
    rw [World.cell?_alloc_at _ _ _ _ (by simp)]
    simpa using hv
  · have := World.frozen?_alloc_mark w #[.int .i64 0, .int .i64 0, .slice none 0 0, .int .i64 0, .int .i64 0, .int .i64 0] 59 0 0 j
    rw [this]
    simp
theorem rdec_fin (w : World) (Wx : World) (hb : Below (w.heap.size + 1) (rdW w) Wx) (u0 u1 u2 u3 u4 u5 : Value) :
    (∀ j v, ([u0, u1, u2, u3, u4, u5] : List Value)[j]? = some v → ((((((Wx.setCell ⟨w.heap.size, 0, none⟩ u0).setCell ⟨w.heap.size, 1, none⟩ u1).setCell ⟨w.heap.size, 2, none⟩ u2).setCell ⟨w.heap.size, 3, none⟩ u3).setCell ⟨w.heap.size, 4, none⟩ u4).setCell ⟨w.heap.size, 5, none⟩ u5).cell? ⟨w.heap.size, j, none⟩ = some v) ∧
    Below w.heap.size w ((((((Wx.setCell ⟨w.heap.size, 0, none⟩ u0).setCell ⟨w.heap.size, 1, none⟩ u1).setCell ⟨w.heap.size, 2, none⟩ u2).setCell ⟨w.heap.size, 3, none⟩ u3).setCell ⟨w.heap.size, 4, none⟩ u4).setCell ⟨w.heap.size, 5, none⟩ u5) := by
  constructor
  · refine set6 _ _ _ _ _ _ _ _ fun j hj => ?_
    rw [hb.cell (p := ⟨w.heap.size, j, none⟩) (by simp)]
    refine ⟨(#[.int .i64 0, .int .i64 0, .slice none 0 0, .int .i64 0, .int .i64 0, .int .i64 0] : Array Value).getD j undef, ?_⟩
    unfold rdW
    rw [World.cell?_alloc_at _ _ _ _ (by simp)]
    rcases j with _ | _ | _ | _ | _ | _ | j
    all_goals first | rfl | omega
  · have h1 := ((Below.refl _ w).alloc (Nat.le_refl _) _).trans (hb.mono (Nat.le_succ _))
    exact ((((((h1.setCell (p := ⟨w.heap.size, 0, none⟩) (by simp) u0).setCell (p := ⟨w.heap.size, 1, none⟩) (by simp) u1).setCell (p := ⟨w.heap.size, 2, none⟩) (by simp) u2).setCell (p := ⟨w.heap.size, 3, none⟩) (by simp) u3).setCell (p := ⟨w.heap.size, 4, none⟩) (by simp) u4).setCell (p := ⟨w.heap.size, 5, none⟩) (by simp) u5)
/-- What the reference's decode hands back. -/
def RdOut (s : Pm.M × Int) (W : World) (e : Ending) (W' : World) : Prop :=
  ∃ tv, e = .returned (.tuple #[Pm.pmV s.1 tv, .int .i64 s.2]) ∧ Pm.Tab W' tv s.1.tables ∧ Below W.heap.size W W'
theorem rtab_nil (W : World) : Pm.Tab W (.slice none 0 0) [] := ⟨rfl, Or.inl ⟨rfl, rfl⟩⟩

theorem rdec_fin0 (w : World) (u0 u1 u2 u3 u4 u5 : Value) :
    (∀ j v, ([u0, u1, u2, u3, u4, u5] : List Value)[j]? = some v → (w.alloc (.cells #[u0, u1, u2, u3, u4, u5] 59)).cell? ⟨w.heap.size, j, none⟩ = some v) ∧
    Below w.heap.size w (w.alloc (.cells #[u0, u1, u2, u3, u4, u5] 59)) :=
  ⟨fun j v hv => by rw [World.cell?_alloc_at _ _ _ _ (by simp)]; simpa using hv, (Below.refl _ _).alloc (Nat.le_refl _) _⟩

set_option maxHeartbeats 3200000 in
set_option maxRecDepth 100000 in
/-- masterdiscref37.decode: another kind. -/
theorem rdec_unknown (d : ByteArray) (w : World) (h2 : 2 ≤ d.size) (g1 : ¬ Cs.byt d.data.toList 0 = 1) (g2 : ¬ Cs.byt d.data.toList 0 = 2) (hs : d.size ≤ 4096) :
    Calls Tryz.prog 32 #[.string d] w (RdOut (Pm.none, 14) w) := by
  have hi0 : 0 < d.size := by omega
  have hy0 := Kit.byt_get d 0 hi0
  have hl0 := Cs.byt_lt d.data.toList 0
  have e1 : ((Cs.byt d.data.toList 0 : Int) != 1) = true := by rw [bne_iff_ne]; omega
  have e2 : ((Cs.byt d.data.toList 0 : Int) != 2) = true := by rw [bne_iff_ne]; omega
  generalize Cs.byt d.data.toList 0 = b0 at *
  go_enter Tryz.func32, Tryz.ntmps32
  go_wp2_with fail
  have hf := rdec_fin0 w (.int .i64 0) (.int .i64 0) (.slice none 0 0) (.int .i64 0) (.int .i64 0) (.int .i64 0)
  exact bodyPost_ret (rdec_results _ _ w.heap.size [.int .i64 0, .int .i64 0, .slice none 0 0, .int .i64 0, .int .i64 0, .int .i64 0] (.int .i64 14) rfl rfl rfl hf.1) rfl ⟨_, rfl, rtab_nil _, hf.2⟩

set_option maxHeartbeats 3200000 in
set_option maxRecDepth 100000 in
/-- masterdiscref37.decode: the first kind, of another length. -/
theorem rdec_one_bad (d : ByteArray) (w : World) (h2 : 2 ≤ d.size) (g1 : Cs.byt d.data.toList 0 = 1) (g6 : ¬ d.size = 6) (hs : d.size ≤ 4096) :
    Calls Tryz.prog 32 #[.string d] w (RdOut (Pm.none, 10) w) := by
  have hi0 : 0 < d.size := by omega
  have hy0 := Kit.byt_get d 0 hi0
  have hl0 := Cs.byt_lt d.data.toList 0
  have e1 : ((Cs.byt d.data.toList 0 : Int) != 1) = false := by rw [bne_eq_false_iff_eq]; omega
  have e3 : ((Cs.byt d.data.toList 0 : Int) == 1) = true := by rw [beq_iff_eq]; omega
  have e4 : ((d.size : Int) != 6) = true := by rw [bne_iff_ne]; omega
  generalize Cs.byt d.data.toList 0 = b0 at *
  go_enter Tryz.func32, Tryz.ntmps32
  go_wp2_with fail
  have hf := rdec_fin0 w (.int .i64 0) (.int .i64 0) (.slice none 0 0) (.int .i64 0) (.int .i64 0) (.int .i64 0)
  exact bodyPost_ret (rdec_results _ _ w.heap.size [.int .i64 0, .int .i64 0, .slice none 0 0, .int .i64 0, .int .i64 0, .int .i64 0] (.int .i64 10) rfl rfl rfl hf.1) rfl ⟨_, rfl, rtab_nil _, hf.2⟩

set_option maxHeartbeats 3200000 in
set_option maxRecDepth 100000 in
/-- masterdiscref37.decode: the first kind. -/
theorem rdec_one (d : ByteArray) (w : World) (g1 : Cs.byt d.data.toList 0 = 1) (g6 : d.size = 6) :
    Calls Tryz.prog 32 #[.string d] w (RdOut (⟨0, (Pm.at_ d.data.toList 4 2 : Int), [], 0, 0, 0⟩, 0) w) := by
  have hi0 : 0 < d.size := by omega
  have hy0 := Kit.byt_get d 0 hi0
  have hl0 := Cs.byt_lt d.data.toList 0
  have CN := Lib.hid (fun W => rNumber_any d 4 2 (by decide) (by omega) (by omega) W)
  have e1 : ((Cs.byt d.data.toList 0 : Int) != 1) = false := by rw [bne_eq_false_iff_eq]; omega
  have e3 : ((Cs.byt d.data.toList 0 : Int) == 1) = true := by rw [beq_iff_eq]; omega
  have e4 : ((d.size : Int) != 6) = false := by rw [bne_eq_false_iff_eq]; omega
  generalize Pm.at_ d.data.toList 4 2 = q at *
  generalize Cs.byt d.data.toList 0 = b0 at *
  go_enter Tryz.func32, Tryz.ntmps32
  go_wp2_with fail
  refine (CN.out _).mono ?_
  rintro e w1 ⟨rfl, rfl⟩
  go_wp2_with fail
  have hf := rdec_fin0 w (.int .i64 0) (.int .i64 (q : Int)) (.slice none 0 0) (.int .i64 0) (.int .i64 0) (.int .i64 0)
  exact bodyPost_ret (rdec_results _ _ w.heap.size [.int .i64 0, .int .i64 (q : Int), .slice none 0 0, .int .i64 0, .int .i64 0, .int .i64 0] (.int .i64 0) rfl rfl rfl hf.1) rfl ⟨_, rfl, rtab_nil _, hf.2⟩

set_option maxHeartbeats 3200000 in
set_option maxRecDepth 100000 in
/-- masterdiscref37.decode: the second kind, of another length. -/
theorem rdec_two_bad (d : ByteArray) (w : World) (h2 : 2 ≤ d.size) (g2 : Cs.byt d.data.toList 0 = 2) (g6 : ¬ d.size = 64) (hs : d.size ≤ 4096) :
    Calls Tryz.prog 32 #[.string d] w (RdOut (Pm.none, 10) w) := by
  have hi0 : 0 < d.size := by omega
  have hy0 := Kit.byt_get d 0 hi0
  have hl0 := Cs.byt_lt d.data.toList 0
  have e1 : ((Cs.byt d.data.toList 0 : Int) != 1) = true := by rw [bne_iff_ne]; omega
  have e2 : ((Cs.byt d.data.toList 0 : Int) != 2) = false := by rw [bne_eq_false_iff_eq]; omega
  have e3 : ((Cs.byt d.data.toList 0 : Int) == 1) = false := by rw [beq_eq_false_iff_ne]; omega
  have e4 : ((d.size : Int) != 64) = true := by rw [bne_iff_ne]; omega
  generalize Cs.byt d.data.toList 0 = b0 at *
  go_enter Tryz.func32, Tryz.ntmps32
  go_wp2_with fail
  have hf := rdec_fin0 w (.int .i64 0) (.int .i64 0) (.slice none 0 0) (.int .i64 0) (.int .i64 0) (.int .i64 0)
  exact bodyPost_ret (rdec_results _ _ w.heap.size [.int .i64 0, .int .i64 0, .slice none 0 0, .int .i64 0, .int .i64 0, .int .i64 0] (.int .i64 10) rfl rfl rfl hf.1) rfl ⟨_, rfl, rtab_nil _, hf.2⟩

end Go.Proofs.YtlcdhlfkffkifaaGreatDoor

/-
  The reference's decode of a map: the second kind.
-/
namespace Go.Proofs.YtlcdhlfkffkifaaGreatDoor
open Go.RowKit

/-- The names' cells. -/
structure NmAt (W : World) (b : Nat) : Prop where
  rd : ∀ (j : Nat), j < 3 → W.cell? ⟨b, j, none⟩ = some (.string ⟨(nameK ((j : Int) + 1)).toArray⟩)
  lt : b < W.heap.size
theorem NmAt.grown {W W' : World} {b : Nat} {row : Option Nat} (h : NmAt W b) (hg : W.grownBy W' row) (hne : some b ≠ row) : NmAt W' b := ⟨fun j hj => hg.cell (h.rd j hj) hne, Nat.lt_of_lt_of_le h.lt hg.size⟩
theorem NmAt.new (W : World) : NmAt (W.alloc (.cells #[.string ⟨Pm.nameV.toArray⟩, .string ⟨Pm.nameS.toArray⟩, .string ⟨Pm.nameM.toArray⟩] 9)) W.heap.size := by
  refine ⟨fun j hj => ?_, by simp⟩
  rw [World.cell?_alloc_at _ _ _ _ (by simp)]
  rcases j with _ | _ | _ | j
  · rfl
  · rfl
  · rfl
  · omega

set_option maxHeartbeats 6400000 in
set_option maxRecDepth 100000 in
/-- masterdiscref37.decode: the second kind, no identifier. -/
theorem rdec_two_err (d : ByteArray) (w : World) (g2 : Cs.byt d.data.toList 0 = 2) (g6 : d.size = 64) (he : (Cs.pentR ((d.data.toList.drop 4).take 32)).2 ≠ 0) :
    Calls Tryz.prog 32 #[.string d] w (RdOut (Pm.none, 10) w) := by
  have hi0 : 0 < d.size := by omega
  have hy0 := Kit.byt_get d 0 hi0
  have e1 : ((Cs.byt d.data.toList 0 : Int) != 1) = true := by rw [bne_iff_ne]; omega
  have e2 : ((Cs.byt d.data.toList 0 : Int) != 2) = false := by rw [bne_eq_false_iff_eq]; omega
  have e3 : ((Cs.byt d.data.toList 0 : Int) == 1) = false := by rw [beq_eq_false_iff_ne]; omega
  have e4 : ((d.size : Int) != 64) = false := by rw [bne_eq_false_iff_eq]; omega
  have cp := fun W => rPent_any (d.extract 4 36) W (by simp <;> omega)
  rw [show (d.extract 4 36).data.toList = (d.data.toList.drop 4).take 32 by rw [Lib.extract_data]] at cp
  generalize Cs.pentR ((d.data.toList.drop 4).take 32) = P at *
  obtain ⟨⟨P1, P2⟩, P3⟩ := P
  simp only [] at *
  have CP := Lib.hid cp
  clear cp
  generalize Cs.byt d.data.toList 0 = b0 at *
  go_enter Tryz.func32, Tryz.ntmps32
  go_wp2_with fail
  refine (CP.out _).mono ?_
  rintro e w1 ⟨rfl, hb1⟩
  have hD := (RdAt.start w).later hb1
  clear hb1 CP e1 e2 e3 e4 hy0 g2
  have d7 : (P3 != 0) = true := by rw [bne_iff_ne]; exact he
  have r0 := hD.res 0 _ rfl
  have f0 := hD.free 0
  have r1 := hD.res 1 _ rfl
  have f1 := hD.free 1
  have r2 := hD.res 2 _ rfl
  have f2 := hD.free 2
  have r3 := hD.res 3 _ rfl
  have f3 := hD.free 3
  have r4 := hD.res 4 _ rfl
  have f4 := hD.free 4
  have r5 := hD.res 5 _ rfl
  have f5 := hD.free 5
  have HD := Lib.hid hD
  clear hD
  go_wp2_with fail
  have hf := rdec_fin w _ HD.out.below (.int .i64 0) (.int .i64 0) (.slice none 0 0) (.int .i64 0) (.int .i64 0) (.int .i64 0)
  exact bodyPost_ret (rdec_results _ _ w.heap.size [.int .i64 0, .int .i64 0, .slice none 0 0, .int .i64 0, .int .i64 0, .int .i64 0] (.int .i64 10) rfl rfl rfl hf.1) rfl ⟨_, rfl, rtab_nil _, hf.2⟩

set_option maxHeartbeats 6400000 in
set_option maxRecDepth 100000 in
/-- masterdiscref37.decode: the second kind, an unknown name. -/
theorem rdec_two_0 (d : ByteArray) (w : World) (g2 : Cs.byt d.data.toList 0 = 2) (g6 : d.size = 64) (he : (Cs.pentR ((d.data.toList.drop 4).take 32)).2 = 0) (hk : Hid (Pm.kindOf (Cs.pentR ((d.data.toList.drop 4).take 32)).1.1 = 0)) :
    Calls Tryz.prog 32 #[.string d] w (RdOut (Pm.none, 14) w) := by
  have hi0 : 0 < d.size := by omega
  have hy0 := Kit.byt_get d 0 hi0
  have e1 : ((Cs.byt d.data.toList 0 : Int) != 1) = true := by rw [bne_iff_ne]; omega
  have e2 : ((Cs.byt d.data.toList 0 : Int) != 2) = false := by rw [bne_eq_false_iff_eq]; omega
  have e3 : ((Cs.byt d.data.toList 0 : Int) == 1) = false := by rw [beq_eq_false_iff_ne]; omega
  have e4 : ((d.size : Int) != 64) = false := by rw [bne_eq_false_iff_eq]; omega
  have cp := fun W => rPent_any (d.extract 4 36) W (by simp <;> omega)
  rw [show (d.extract 4 36).data.toList = (d.data.toList.drop 4).take 32 by rw [Lib.extract_data]] at cp
  generalize Cs.pentR ((d.data.toList.drop 4).take 32) = P at *
  obtain ⟨⟨P1, P2⟩, P3⟩ := P
  simp only [] at *
  have CP := Lib.hid cp
  clear cp
  generalize Cs.byt d.data.toList 0 = b0 at *
  go_enter Tryz.func32, Tryz.ntmps32
  go_wp2_with fail
  refine (CP.out _).mono ?_
  rintro e w1 ⟨rfl, hb1⟩
  have hD := (RdAt.start w).later hb1
  clear hb1 CP e1 e2 e3 e4 hy0 g2
  have d7 : (P3 != 0) = false := by rw [bne_eq_false_iff_eq]; exact he
  have HD1 := Lib.hid hD
  clear hD he
  have CN := Lib.hid (fun W => rNumber_any d 38 2 (by decide) (by omega) (by omega) W)
  go_wp2_with fail
  refine (CN.out _).mono ?_
  rintro e wn ⟨rfl, rfl⟩
  clear CN
  have HX0 := Lib.hid (XAt.new w1 (Pm.at_ d.data.toList 38 2 : Int) 59)
  have HN0 := Lib.hid (NmAt.new (w1.alloc (.cells #[.int .i64 0, .int .i64 (Pm.at_ d.data.toList 38 2 : Int), .slice none 0 0, .int .i64 0, .int .i64 0, .int .i64 0] 59)))
  have hsz1 : (w1.alloc (.cells #[.int .i64 0, .int .i64 (Pm.at_ d.data.toList 38 2 : Int), .slice none 0 0, .int .i64 0, .int .i64 0, .int .i64 0] 59)).heap.size = w1.heap.size + 1 := by simp
  rw [hsz1] at HN0
  clear hsz1
  generalize (Pm.at_ d.data.toList 38 2 : Int) = nm at *
  go_wp2_with fail
  refine (names_any _).mono ?_
  rintro e w2 ⟨rfl, rfl⟩
  go_wp2_with fail
  go_loopw [9] (fun iv wr => ∃ j : Nat, j ≤ 3 ∧ iv = .int .i64 j ∧ XAt wr w1.heap.size (if (0 : Int) ≠ 0 ∧ (0 : Int) ≤ j then 0 else 0) nm ∧ NmAt wr (w1.heap.size + 1) ∧ Below w1.heap.size w1 wr) (fun iv _ => 3 - (intOf iv).toNat)
  case atStart =>
    refine ⟨0, by omega, rfl, ?_, ?_, ?_⟩
    · rw [if_neg (by omega)]
      exact HX0.out.below ((Below.refl _ _).alloc (Nat.le_refl _) _)
    · exact HN0.out
    · exact ((Below.refl _ _).alloc (Nat.le_refl _) _).alloc (by simp) _
  case round =>
    obtain ⟨j, hj, rfl, hX, hN, hbr⟩ := hrel
    by_cases hlt : j < 3
    · have hnm := hN.rd j hlt
      have hko := kindOf_name (x := (j : Int) + 1) (s := P1) (by omega)
      have f0 := hX.free 0
      have x0 := hX.cells 0 _ rfl
      have HX := Lib.hid hX
      have HN := Lib.hid hN
      have HBR := Lib.hid hbr
      clear hX hN hbr
      by_cases hq : nameK ((j : Int) + 1) = P1
      · exfalso
        have h1 := hko.1 hq
        have h2 := hk.out
        omega
      · have HKJ : Hid (¬ (0 : Int) = (j : Int) + 1) := Lib.hid (fun e => hq (hko.2 (hk.out.trans e)))
        have hne : (P1 == nameK ((j : Int) + 1)) = false := by rw [beq_eq_false_iff_ne]; exact fun e => hq e.symm
        clear hko hq
        generalize nameK ((j : Int) + 1) = nk at *
        go_wp2_with fail
        go_roundw
        case rel =>
          have hKj := HKJ.out
          refine ⟨j + 1, by omega, by go_num, ?_, HN.out, HBR.out⟩
          have e : (if (0 : Int) ≠ 0 ∧ (0 : Int) ≤ ((j + 1 : Nat) : Int) then (0 : Int) else 0) = if (0 : Int) ≠ 0 ∧ (0 : Int) ≤ j then 0 else 0 := by
            by_cases h : (0 : Int) ≠ 0 ∧ (0 : Int) ≤ j
            · rw [if_pos h, if_pos (by omega)]
            · rw [if_neg h, if_neg (by omega)]
          rw [e]
          exact HX.out
        case measure => simp [intOf]; omega
    · obtain rfl : j = 3 := by omega
      have hXK : XAt wr w1.heap.size 0 nm := by
        have h := hX
        first | (rw [if_pos (by decide)] at h; exact h) | (rw [if_neg (by decide)] at h; exact h)
      have hD := HD1.out.later hbr
      clear hX hN
      have r0 := hD.res 0 _ rfl
      have f0 := hD.free 0
      have r1 := hD.res 1 _ rfl
      have f1 := hD.free 1
      have r2 := hD.res 2 _ rfl
      have f2 := hD.free 2
      have r3 := hD.res 3 _ rfl
      have f3 := hD.free 3
      have r4 := hD.res 4 _ rfl
      have f4 := hD.free 4
      have r5 := hD.res 5 _ rfl
      have f5 := hD.free 5
      have x0 := hXK.cells 0 _ rfl
      have x1 := hXK.cells 1 _ rfl
      have x2 := hXK.cells 2 _ rfl
      have x3 := hXK.cells 3 _ rfl
      have x4 := hXK.cells 4 _ rfl
      have x5 := hXK.cells 5 _ rfl
      have g3 := hXK.free 3
      have g4 := hXK.free 4
      have g5 := hXK.free 5
      have HD := Lib.hid hD
      clear hD hbr
      go_wp2_with fail
      have hf := rdec_fin w _ HD.out.below (.int .i64 0) (.int .i64 0) (.slice none 0 0) (.int .i64 0) (.int .i64 0) (.int .i64 0)
      exact bodyPost_ret (rdec_results _ _ w.heap.size [.int .i64 0, .int .i64 0, .slice none 0 0, .int .i64 0, .int .i64 0, .int .i64 0] (.int .i64 14) rfl rfl rfl hf.1) rfl ⟨_, rfl, rtab_nil _, hf.2⟩

set_option maxHeartbeats 6400000 in
set_option maxRecDepth 100000 in
/-- masterdiscref37.decode: the second kind, virtual. -/
theorem rdec_two_1 (d : ByteArray) (w : World) (g2 : Cs.byt d.data.toList 0 = 2) (g6 : d.size = 64) (he : (Cs.pentR ((d.data.toList.drop 4).take 32)).2 = 0) (hk : Hid (Pm.kindOf (Cs.pentR ((d.data.toList.drop 4).take 32)).1.1 = 1)) :
    Calls Tryz.prog 32 #[.string d] w (RdOut (⟨1, (Pm.at_ d.data.toList 38 2 : Int), [], 0, 0, 0⟩, 0) w) := by
  have hi0 : 0 < d.size := by omega
  have hy0 := Kit.byt_get d 0 hi0
  have e1 : ((Cs.byt d.data.toList 0 : Int) != 1) = true := by rw [bne_iff_ne]; omega
  have e2 : ((Cs.byt d.data.toList 0 : Int) != 2) = false := by rw [bne_eq_false_iff_eq]; omega
  have e3 : ((Cs.byt d.data.toList 0 : Int) == 1) = false := by rw [beq_eq_false_iff_ne]; omega
  have e4 : ((d.size : Int) != 64) = false := by rw [bne_eq_false_iff_eq]; omega
  have cp := fun W => rPent_any (d.extract 4 36) W (by simp <;> omega)
  rw [show (d.extract 4 36).data.toList = (d.data.toList.drop 4).take 32 by rw [Lib.extract_data]] at cp
  generalize Cs.pentR ((d.data.toList.drop 4).take 32) = P at *
  obtain ⟨⟨P1, P2⟩, P3⟩ := P
  simp only [] at *
  have CP := Lib.hid cp
  clear cp
  generalize Cs.byt d.data.toList 0 = b0 at *
  go_enter Tryz.func32, Tryz.ntmps32
  go_wp2_with fail
  refine (CP.out _).mono ?_
  rintro e w1 ⟨rfl, hb1⟩
  have hD := (RdAt.start w).later hb1
  clear hb1 CP e1 e2 e3 e4 hy0 g2
  have d7 : (P3 != 0) = false := by rw [bne_eq_false_iff_eq]; exact he
  have HD1 := Lib.hid hD
  clear hD he
  have CN := Lib.hid (fun W => rNumber_any d 38 2 (by decide) (by omega) (by omega) W)
  go_wp2_with fail
  refine (CN.out _).mono ?_
  rintro e wn ⟨rfl, rfl⟩
  clear CN
  have HX0 := Lib.hid (XAt.new w1 (Pm.at_ d.data.toList 38 2 : Int) 59)
  have HN0 := Lib.hid (NmAt.new (w1.alloc (.cells #[.int .i64 0, .int .i64 (Pm.at_ d.data.toList 38 2 : Int), .slice none 0 0, .int .i64 0, .int .i64 0, .int .i64 0] 59)))
  have hsz1 : (w1.alloc (.cells #[.int .i64 0, .int .i64 (Pm.at_ d.data.toList 38 2 : Int), .slice none 0 0, .int .i64 0, .int .i64 0, .int .i64 0] 59)).heap.size = w1.heap.size + 1 := by simp
  rw [hsz1] at HN0
  clear hsz1
  generalize (Pm.at_ d.data.toList 38 2 : Int) = nm at *
  go_wp2_with fail
  refine (names_any _).mono ?_
  rintro e w2 ⟨rfl, rfl⟩
  go_wp2_with fail
  go_loopw [9] (fun iv wr => ∃ j : Nat, j ≤ 3 ∧ iv = .int .i64 j ∧ XAt wr w1.heap.size (if (1 : Int) ≠ 0 ∧ (1 : Int) ≤ j then 1 else 0) nm ∧ NmAt wr (w1.heap.size + 1) ∧ Below w1.heap.size w1 wr) (fun iv _ => 3 - (intOf iv).toNat)
  case atStart =>
    refine ⟨0, by omega, rfl, ?_, ?_, ?_⟩
    · rw [if_neg (by omega)]
      exact HX0.out.below ((Below.refl _ _).alloc (Nat.le_refl _) _)
    · exact HN0.out
    · exact ((Below.refl _ _).alloc (Nat.le_refl _) _).alloc (by simp) _
  case round =>
    obtain ⟨j, hj, rfl, hX, hN, hbr⟩ := hrel
    by_cases hlt : j < 3
    · have hnm := hN.rd j hlt
      have hko := kindOf_name (x := (j : Int) + 1) (s := P1) (by omega)
      have f0 := hX.free 0
      have x0 := hX.cells 0 _ rfl
      have HX := Lib.hid hX
      have HN := Lib.hid hN
      have HBR := Lib.hid hbr
      clear hX hN hbr
      by_cases hq : nameK ((j : Int) + 1) = P1
      · have HKJ := Lib.hid (hk.out.symm.trans (hko.1 hq))
        rw [hq] at hnm
        clear hko hq
        go_wp2_with fail
        go_roundw
        case rel =>
          have hKj := HKJ.out
          refine ⟨j + 1, by omega, by go_num, ?_, HN.out.grown (grownSet _ _ _ _) (fun e => by have := Option.some.inj e; omega), HBR.out.setCell (p := ⟨w1.heap.size, 0, none⟩) (Nat.le_refl _) _⟩
          rw [if_pos (by omega)]
          have h := HX.out.set ((j : Int) + 1)
          rw [← hKj] at h ⊢
          exact h
        case measure => simp [intOf]; omega
      · have HKJ : Hid (¬ (1 : Int) = (j : Int) + 1) := Lib.hid (fun e => hq (hko.2 (hk.out.trans e)))
        have hne : (P1 == nameK ((j : Int) + 1)) = false := by rw [beq_eq_false_iff_ne]; exact fun e => hq e.symm
        clear hko hq
        generalize nameK ((j : Int) + 1) = nk at *
        go_wp2_with fail
        go_roundw
        case rel =>
          have hKj := HKJ.out
          refine ⟨j + 1, by omega, by go_num, ?_, HN.out, HBR.out⟩
          have e : (if (1 : Int) ≠ 0 ∧ (1 : Int) ≤ ((j + 1 : Nat) : Int) then (1 : Int) else 0) = if (1 : Int) ≠ 0 ∧ (1 : Int) ≤ j then 1 else 0 := by
            by_cases h : (1 : Int) ≠ 0 ∧ (1 : Int) ≤ j
            · rw [if_pos h, if_pos (by omega)]
            · rw [if_neg h, if_neg (by omega)]
          rw [e]
          exact HX.out
        case measure => simp [intOf]; omega
    · obtain rfl : j = 3 := by omega
      have hXK : XAt wr w1.heap.size 1 nm := by
        have h := hX
        first | (rw [if_pos (by decide)] at h; exact h) | (rw [if_neg (by decide)] at h; exact h)
      have hD := HD1.out.later hbr
      clear hX hN
      have r0 := hD.res 0 _ rfl
      have f0 := hD.free 0
      have r1 := hD.res 1 _ rfl
      have f1 := hD.free 1
      have r2 := hD.res 2 _ rfl
      have f2 := hD.free 2
      have r3 := hD.res 3 _ rfl
      have f3 := hD.free 3
      have r4 := hD.res 4 _ rfl
      have f4 := hD.free 4
      have r5 := hD.res 5 _ rfl
      have f5 := hD.free 5
      have x0 := hXK.cells 0 _ rfl
      have x1 := hXK.cells 1 _ rfl
      have x2 := hXK.cells 2 _ rfl
      have x3 := hXK.cells 3 _ rfl
      have x4 := hXK.cells 4 _ rfl
      have x5 := hXK.cells 5 _ rfl
      have g3 := hXK.free 3
      have g4 := hXK.free 4
      have g5 := hXK.free 5
      have HD := Lib.hid hD
      clear hD hbr
      go_wp2_with fail
      have hf := rdec_fin w _ HD.out.below (.int .i64 1) (.int .i64 nm) (.slice none 0 0) (.int .i64 0) (.int .i64 0) (.int .i64 0)
      exact bodyPost_ret (rdec_results _ _ w.heap.size [.int .i64 1, .int .i64 nm, .slice none 0 0, .int .i64 0, .int .i64 0, .int .i64 0] (.int .i64 0) rfl rfl rfl hf.1) rfl ⟨_, rfl, rtab_nil _, hf.2⟩

set_option maxHeartbeats 6400000 in
set_option maxRecDepth 100000 in
/-- masterdiscref37.decode: the second kind, metadata. -/
theorem rdec_two_3 (d : ByteArray) (w : World) (g2 : Cs.byt d.data.toList 0 = 2) (g6 : d.size = 64) (he : (Cs.pentR ((d.data.toList.drop 4).take 32)).2 = 0) (hk : Hid (Pm.kindOf (Cs.pentR ((d.data.toList.drop 4).take 32)).1.1 = 3)) :
    Calls Tryz.prog 32 #[.string d] w (RdOut (⟨3, (Pm.at_ d.data.toList 38 2 : Int), [], (Pm.at_ d.data.toList 40 4 : Int), (Pm.at_ d.data.toList 44 4 : Int), (Pm.at_ d.data.toList 48 4 : Int)⟩, 0) w) := by
  have hi0 : 0 < d.size := by omega
  have hy0 := Kit.byt_get d 0 hi0
  have e1 : ((Cs.byt d.data.toList 0 : Int) != 1) = true := by rw [bne_iff_ne]; omega
  have e2 : ((Cs.byt d.data.toList 0 : Int) != 2) = false := by rw [bne_eq_false_iff_eq]; omega
  have e3 : ((Cs.byt d.data.toList 0 : Int) == 1) = false := by rw [beq_eq_false_iff_ne]; omega
  have e4 : ((d.size : Int) != 64) = false := by rw [bne_eq_false_iff_eq]; omega
  have cp := fun W => rPent_any (d.extract 4 36) W (by simp <;> omega)
  rw [show (d.extract 4 36).data.toList = (d.data.toList.drop 4).take 32 by rw [Lib.extract_data]] at cp
  generalize Cs.pentR ((d.data.toList.drop 4).take 32) = P at *
  obtain ⟨⟨P1, P2⟩, P3⟩ := P
  simp only [] at *
  have CP := Lib.hid cp
  clear cp
  generalize Cs.byt d.data.toList 0 = b0 at *
  go_enter Tryz.func32, Tryz.ntmps32
  go_wp2_with fail
  refine (CP.out _).mono ?_
  rintro e w1 ⟨rfl, hb1⟩
  have hD := (RdAt.start w).later hb1
  clear hb1 CP e1 e2 e3 e4 hy0 g2
  have d7 : (P3 != 0) = false := by rw [bne_eq_false_iff_eq]; exact he
  have HD1 := Lib.hid hD
  clear hD he
  have CN := Lib.hid (fun W => rNumber_any d 38 2 (by decide) (by omega) (by omega) W)
  go_wp2_with fail
  refine (CN.out _).mono ?_
  rintro e wn ⟨rfl, rfl⟩
  clear CN
  have HX0 := Lib.hid (XAt.new w1 (Pm.at_ d.data.toList 38 2 : Int) 59)
  have HN0 := Lib.hid (NmAt.new (w1.alloc (.cells #[.int .i64 0, .int .i64 (Pm.at_ d.data.toList 38 2 : Int), .slice none 0 0, .int .i64 0, .int .i64 0, .int .i64 0] 59)))
  have hsz1 : (w1.alloc (.cells #[.int .i64 0, .int .i64 (Pm.at_ d.data.toList 38 2 : Int), .slice none 0 0, .int .i64 0, .int .i64 0, .int .i64 0] 59)).heap.size = w1.heap.size + 1 := by simp
  rw [hsz1] at HN0
  clear hsz1
  generalize (Pm.at_ d.data.toList 38 2 : Int) = nm at *
  go_wp2_with fail
  refine (names_any _).mono ?_
  rintro e w2 ⟨rfl, rfl⟩
  go_wp2_with fail
  go_loopw [9] (fun iv wr => ∃ j : Nat, j ≤ 3 ∧ iv = .int .i64 j ∧ XAt wr w1.heap.size (if (3 : Int) ≠ 0 ∧ (3 : Int) ≤ j then 3 else 0) nm ∧ NmAt wr (w1.heap.size + 1) ∧ Below w1.heap.size w1 wr) (fun iv _ => 3 - (intOf iv).toNat)
  case atStart =>
    refine ⟨0, by omega, rfl, ?_, ?_, ?_⟩
    · rw [if_neg (by omega)]
      exact HX0.out.below ((Below.refl _ _).alloc (Nat.le_refl _) _)
    · exact HN0.out
    · exact ((Below.refl _ _).alloc (Nat.le_refl _) _).alloc (by simp) _
  case round =>
    obtain ⟨j, hj, rfl, hX, hN, hbr⟩ := hrel
    by_cases hlt : j < 3
    · have hnm := hN.rd j hlt
      have hko := kindOf_name (x := (j : Int) + 1) (s := P1) (by omega)
      have f0 := hX.free 0
      have x0 := hX.cells 0 _ rfl
      have HX := Lib.hid hX
      have HN := Lib.hid hN
      have HBR := Lib.hid hbr
      clear hX hN hbr
      by_cases hq : nameK ((j : Int) + 1) = P1
      · have HKJ := Lib.hid (hk.out.symm.trans (hko.1 hq))
        rw [hq] at hnm
        clear hko hq
        go_wp2_with fail
        go_roundw
        case rel =>
          have hKj := HKJ.out
          refine ⟨j + 1, by omega, by go_num, ?_, HN.out.grown (grownSet _ _ _ _) (fun e => by have := Option.some.inj e; omega), HBR.out.setCell (p := ⟨w1.heap.size, 0, none⟩) (Nat.le_refl _) _⟩
          rw [if_pos (by omega)]
          have h := HX.out.set ((j : Int) + 1)
          rw [← hKj] at h ⊢
          exact h
        case measure => simp [intOf]; omega
      · have HKJ : Hid (¬ (3 : Int) = (j : Int) + 1) := Lib.hid (fun e => hq (hko.2 (hk.out.trans e)))
        have hne : (P1 == nameK ((j : Int) + 1)) = false := by rw [beq_eq_false_iff_ne]; exact fun e => hq e.symm
        clear hko hq
        generalize nameK ((j : Int) + 1) = nk at *
        go_wp2_with fail
        go_roundw
        case rel =>
          have hKj := HKJ.out
          refine ⟨j + 1, by omega, by go_num, ?_, HN.out, HBR.out⟩
          have e : (if (3 : Int) ≠ 0 ∧ (3 : Int) ≤ ((j + 1 : Nat) : Int) then (3 : Int) else 0) = if (3 : Int) ≠ 0 ∧ (3 : Int) ≤ j then 3 else 0 := by
            by_cases h : (3 : Int) ≠ 0 ∧ (3 : Int) ≤ j
            · rw [if_pos h, if_pos (by omega)]
            · rw [if_neg h, if_neg (by omega)]
          rw [e]
          exact HX.out
        case measure => simp [intOf]; omega
    · obtain rfl : j = 3 := by omega
      have hXK : XAt wr w1.heap.size 3 nm := by
        have h := hX
        first | (rw [if_pos (by decide)] at h; exact h) | (rw [if_neg (by decide)] at h; exact h)
      have hD := HD1.out.later hbr
      clear hX hN
      have r0 := hD.res 0 _ rfl
      have f0 := hD.free 0
      have r1 := hD.res 1 _ rfl
      have f1 := hD.free 1
      have r2 := hD.res 2 _ rfl
      have f2 := hD.free 2
      have r3 := hD.res 3 _ rfl
      have f3 := hD.free 3
      have r4 := hD.res 4 _ rfl
      have f4 := hD.free 4
      have r5 := hD.res 5 _ rfl
      have f5 := hD.free 5
      have x0 := hXK.cells 0 _ rfl
      have x1 := hXK.cells 1 _ rfl
      have x2 := hXK.cells 2 _ rfl
      have x3 := hXK.cells 3 _ rfl
      have x4 := hXK.cells 4 _ rfl
      have x5 := hXK.cells 5 _ rfl
      have g3 := hXK.free 3
      have g4 := hXK.free 4
      have g5 := hXK.free 5
      have HD := Lib.hid hD
      clear hD hbr
      have hsz := HD1.out.size
      have HSZ := Lib.hid (show w.heap.size + 1 ≤ w1.heap.size by omega)
      have ne1 : ¬ w1.heap.size = w.heap.size := by omega
      have ne2 : ¬ w.heap.size = w1.heap.size := by omega
      have CN1 := Lib.hid (fun W => rNumber_any d 40 4 (by decide) (by omega) (by omega) W)
      go_wp2_with fail
      refine (CN1.out _).mono ?_
      rintro e wn ⟨rfl, rfl⟩
      clear CN1
      have CN2 := Lib.hid (fun W => rNumber_any d 44 4 (by decide) (by omega) (by omega) W)
      go_wp2_with fail
      refine (CN2.out _).mono ?_
      rintro e wn ⟨rfl, rfl⟩
      clear CN2
      have CN3 := Lib.hid (fun W => rNumber_any d 48 4 (by decide) (by omega) (by omega) W)
      go_wp2_with fail
      refine (CN3.out _).mono ?_
      rintro e wn ⟨rfl, rfl⟩
      clear CN3
      go_wp2_with fail
      have hf := rdec_fin w _ ((((HD.out.below.setCell (p := ⟨w1.heap.size, 3, none⟩) HSZ.out (.int .i64 (Pm.at_ d.data.toList 40 4 : Int))).setCell (p := ⟨w1.heap.size, 4, none⟩) HSZ.out (.int .i64 (Pm.at_ d.data.toList 44 4 : Int))).setCell (p := ⟨w1.heap.size, 5, none⟩) HSZ.out (.int .i64 (Pm.at_ d.data.toList 48 4 : Int)))) (.int .i64 3) (.int .i64 nm) (.slice none 0 0) (.int .i64 (Pm.at_ d.data.toList 40 4 : Int)) (.int .i64 (Pm.at_ d.data.toList 44 4 : Int)) (.int .i64 (Pm.at_ d.data.toList 48 4 : Int))
      exact bodyPost_ret (rdec_results _ _ w.heap.size [.int .i64 3, .int .i64 nm, .slice none 0 0, .int .i64 (Pm.at_ d.data.toList 40 4 : Int), .int .i64 (Pm.at_ d.data.toList 44 4 : Int), .int .i64 (Pm.at_ d.data.toList 48 4 : Int)] (.int .i64 0) rfl rfl rfl hf.1) rfl ⟨_, rfl, rtab_nil _, hf.2⟩

set_option maxHeartbeats 6400000 in
set_option maxRecDepth 100000 in
/-- masterdiscref37.decode: the second kind, sparable, other packets. -/
theorem rdec_two_2a (d : ByteArray) (w : World) (g2 : Cs.byt d.data.toList 0 = 2) (g6 : d.size = 64) (he : (Cs.pentR ((d.data.toList.drop 4).take 32)).2 = 0) (hk : Hid (Pm.kindOf (Cs.pentR ((d.data.toList.drop 4).take 32)).1.1 = 2)) (h8 : ¬ Pm.at_ d.data.toList 40 2 = 8) :
    Calls Tryz.prog 32 #[.string d] w (RdOut (Pm.none, 14) w) := by
  have hi0 : 0 < d.size := by omega
  have hy0 := Kit.byt_get d 0 hi0
  have e1 : ((Cs.byt d.data.toList 0 : Int) != 1) = true := by rw [bne_iff_ne]; omega
  have e2 : ((Cs.byt d.data.toList 0 : Int) != 2) = false := by rw [bne_eq_false_iff_eq]; omega
  have e3 : ((Cs.byt d.data.toList 0 : Int) == 1) = false := by rw [beq_eq_false_iff_ne]; omega
  have e4 : ((d.size : Int) != 64) = false := by rw [bne_eq_false_iff_eq]; omega
  have cp := fun W => rPent_any (d.extract 4 36) W (by simp <;> omega)
  rw [show (d.extract 4 36).data.toList = (d.data.toList.drop 4).take 32 by rw [Lib.extract_data]] at cp
  generalize Cs.pentR ((d.data.toList.drop 4).take 32) = P at *
  obtain ⟨⟨P1, P2⟩, P3⟩ := P
  simp only [] at *
  have CP := Lib.hid cp
  clear cp
  generalize Cs.byt d.data.toList 0 = b0 at *
  go_enter Tryz.func32, Tryz.ntmps32
  go_wp2_with fail
  refine (CP.out _).mono ?_
  rintro e w1 ⟨rfl, hb1⟩
  have hD := (RdAt.start w).later hb1
  clear hb1 CP e1 e2 e3 e4 hy0 g2
  have d7 : (P3 != 0) = false := by rw [bne_eq_false_iff_eq]; exact he
  have HD1 := Lib.hid hD
  clear hD he
  have CN := Lib.hid (fun W => rNumber_any d 38 2 (by decide) (by omega) (by omega) W)
  go_wp2_with fail
  refine (CN.out _).mono ?_
  rintro e wn ⟨rfl, rfl⟩
  clear CN
  have HX0 := Lib.hid (XAt.new w1 (Pm.at_ d.data.toList 38 2 : Int) 59)
  have HN0 := Lib.hid (NmAt.new (w1.alloc (.cells #[.int .i64 0, .int .i64 (Pm.at_ d.data.toList 38 2 : Int), .slice none 0 0, .int .i64 0, .int .i64 0, .int .i64 0] 59)))
  have hsz1 : (w1.alloc (.cells #[.int .i64 0, .int .i64 (Pm.at_ d.data.toList 38 2 : Int), .slice none 0 0, .int .i64 0, .int .i64 0, .int .i64 0] 59)).heap.size = w1.heap.size + 1 := by simp
  rw [hsz1] at HN0
  clear hsz1
  generalize (Pm.at_ d.data.toList 38 2 : Int) = nm at *
  go_wp2_with fail
  refine (names_any _).mono ?_
  rintro e w2 ⟨rfl, rfl⟩
  go_wp2_with fail
  go_loopw [9] (fun iv wr => ∃ j : Nat, j ≤ 3 ∧ iv = .int .i64 j ∧ XAt wr w1.heap.size (if (2 : Int) ≠ 0 ∧ (2 : Int) ≤ j then 2 else 0) nm ∧ NmAt wr (w1.heap.size + 1) ∧ Below w1.heap.size w1 wr) (fun iv _ => 3 - (intOf iv).toNat)
  case atStart =>
    refine ⟨0, by omega, rfl, ?_, ?_, ?_⟩
    · rw [if_neg (by omega)]
      exact HX0.out.below ((Below.refl _ _).alloc (Nat.le_refl _) _)
    · exact HN0.out
    · exact ((Below.refl _ _).alloc (Nat.le_refl _) _).alloc (by simp) _
  case round =>
    obtain ⟨j, hj, rfl, hX, hN, hbr⟩ := hrel
    by_cases hlt : j < 3
    · have hnm := hN.rd j hlt
      have hko := kindOf_name (x := (j : Int) + 1) (s := P1) (by omega)
      have f0 := hX.free 0
      have x0 := hX.cells 0 _ rfl
      have HX := Lib.hid hX
      have HN := Lib.hid hN
      have HBR := Lib.hid hbr
      clear hX hN hbr
      by_cases hq : nameK ((j : Int) + 1) = P1
      · have HKJ := Lib.hid (hk.out.symm.trans (hko.1 hq))
        rw [hq] at hnm
        clear hko hq
        go_wp2_with fail
        go_roundw
        case rel =>
          have hKj := HKJ.out
          refine ⟨j + 1, by omega, by go_num, ?_, HN.out.grown (grownSet _ _ _ _) (fun e => by have := Option.some.inj e; omega), HBR.out.setCell (p := ⟨w1.heap.size, 0, none⟩) (Nat.le_refl _) _⟩
          rw [if_pos (by omega)]
          have h := HX.out.set ((j : Int) + 1)
          rw [← hKj] at h ⊢
          exact h
        case measure => simp [intOf]; omega
      · have HKJ : Hid (¬ (2 : Int) = (j : Int) + 1) := Lib.hid (fun e => hq (hko.2 (hk.out.trans e)))
        have hne : (P1 == nameK ((j : Int) + 1)) = false := by rw [beq_eq_false_iff_ne]; exact fun e => hq e.symm
        clear hko hq
        generalize nameK ((j : Int) + 1) = nk at *
        go_wp2_with fail
        go_roundw
        case rel =>
          have hKj := HKJ.out
          refine ⟨j + 1, by omega, by go_num, ?_, HN.out, HBR.out⟩
          have e : (if (2 : Int) ≠ 0 ∧ (2 : Int) ≤ ((j + 1 : Nat) : Int) then (2 : Int) else 0) = if (2 : Int) ≠ 0 ∧ (2 : Int) ≤ j then 2 else 0 := by
            by_cases h : (2 : Int) ≠ 0 ∧ (2 : Int) ≤ j
            · rw [if_pos h, if_pos (by omega)]
            · rw [if_neg h, if_neg (by omega)]
          rw [e]
          exact HX.out
        case measure => simp [intOf]; omega
    · obtain rfl : j = 3 := by omega
      have hXK : XAt wr w1.heap.size 2 nm := by
        have h := hX
        first | (rw [if_pos (by decide)] at h; exact h) | (rw [if_neg (by decide)] at h; exact h)
      have hD := HD1.out.later hbr
      clear hX hN
      have r0 := hD.res 0 _ rfl
      have f0 := hD.free 0
      have r1 := hD.res 1 _ rfl
      have f1 := hD.free 1
      have r2 := hD.res 2 _ rfl
      have f2 := hD.free 2
      have r3 := hD.res 3 _ rfl
      have f3 := hD.free 3
      have r4 := hD.res 4 _ rfl
      have f4 := hD.free 4
      have r5 := hD.res 5 _ rfl
      have f5 := hD.free 5
      have x0 := hXK.cells 0 _ rfl
      have x1 := hXK.cells 1 _ rfl
      have x2 := hXK.cells 2 _ rfl
      have x3 := hXK.cells 3 _ rfl
      have x4 := hXK.cells 4 _ rfl
      have x5 := hXK.cells 5 _ rfl
      have g3 := hXK.free 3
      have g4 := hXK.free 4
      have g5 := hXK.free 5
      have HD := Lib.hid hD
      clear hD hbr
      have CN1 := Lib.hid (fun W => rNumber_any d 40 2 (by decide) (by omega) (by omega) W)
      go_wp2_with fail
      refine (CN1.out _).mono ?_
      rintro e wn ⟨rfl, rfl⟩
      clear CN1
      have d8 : ((Pm.at_ d.data.toList 40 2 : Int) != 8) = true := by rw [bne_iff_ne]; omega
      go_wp2_with fail
      have hf := rdec_fin w _ HD.out.below (.int .i64 0) (.int .i64 0) (.slice none 0 0) (.int .i64 0) (.int .i64 0) (.int .i64 0)
      exact bodyPost_ret (rdec_results _ _ w.heap.size [.int .i64 0, .int .i64 0, .slice none 0 0, .int .i64 0, .int .i64 0, .int .i64 0] (.int .i64 14) rfl rfl rfl hf.1) rfl ⟨_, rfl, rtab_nil _, hf.2⟩

end Go.Proofs.YtlcdhlfkffkifaaGreatDoor

/-
  The reference's decode of a map: the second kind, sparable.
-/
namespace Go.Proofs.YtlcdhlfkffkifaaGreatDoor
open Go.RowKit
attribute [local go_sem ↓] Go.wp_at_zero Go.wp_at_succ
theorem Pm.at_one (d : List UInt8) (a : Nat) (h : a < d.length) : Pm.at_ d a 1 = Cs.byt d a := by
  unfold Pm.at_ Cs.byt
  rw [List.drop_eq_getElem_cons h, List.take_succ_cons, List.take_zero]
  show d[a].toNat + 256 * 0 = _
  simp [List.getD, h]

set_option maxHeartbeats 6400000 in
set_option maxRecDepth 100000 in
/-- masterdiscref37.decode: the second kind, sparable, too few or too many tables. -/
theorem rdec_two_2b (d : ByteArray) (w : World) (g2 : Cs.byt d.data.toList 0 = 2) (g6 : d.size = 64) (he : (Cs.pentR ((d.data.toList.drop 4).take 32)).2 = 0) (hk : Hid (Pm.kindOf (Cs.pentR ((d.data.toList.drop 4).take 32)).1.1 = 2)) (h8 : Pm.at_ d.data.toList 40 2 = 8) (hn : Pm.at_ d.data.toList 42 1 < 1 ∨ 4 < Pm.at_ d.data.toList 42 1) :
    Calls Tryz.prog 32 #[.string d] w (RdOut (Pm.none, 10) w) := by
  have hi0 : 0 < d.size := by omega
  have hy0 := Kit.byt_get d 0 hi0
  have e1 : ((Cs.byt d.data.toList 0 : Int) != 1) = true := by rw [bne_iff_ne]; omega
  have e2 : ((Cs.byt d.data.toList 0 : Int) != 2) = false := by rw [bne_eq_false_iff_eq]; omega
  have e3 : ((Cs.byt d.data.toList 0 : Int) == 1) = false := by rw [beq_eq_false_iff_ne]; omega
  have e4 : ((d.size : Int) != 64) = false := by rw [bne_eq_false_iff_eq]; omega
  have cp := fun W => rPent_any (d.extract 4 36) W (by simp <;> omega)
  rw [show (d.extract 4 36).data.toList = (d.data.toList.drop 4).take 32 by rw [Lib.extract_data]] at cp
  generalize Cs.pentR ((d.data.toList.drop 4).take 32) = P at *
  obtain ⟨⟨P1, P2⟩, P3⟩ := P
  simp only [] at *
  have CP := Lib.hid cp
  clear cp
  generalize Cs.byt d.data.toList 0 = b0 at *
  go_enter Tryz.func32, Tryz.ntmps32
  go_wp2_with fail
  refine (CP.out _).mono ?_
  rintro e w1 ⟨rfl, hb1⟩
  have hD := (RdAt.start w).later hb1
  clear hb1 CP e1 e2 e3 e4 hy0 g2
  have d7 : (P3 != 0) = false := by rw [bne_eq_false_iff_eq]; exact he
  have HD1 := Lib.hid hD
  clear hD he
  have CN := Lib.hid (fun W => rNumber_any d 38 2 (by decide) (by omega) (by omega) W)
  go_wp2_with fail
  refine (CN.out _).mono ?_
  rintro e wn ⟨rfl, rfl⟩
  clear CN
  have HX0 := Lib.hid (XAt.new w1 (Pm.at_ d.data.toList 38 2 : Int) 59)
  have HN0 := Lib.hid (NmAt.new (w1.alloc (.cells #[.int .i64 0, .int .i64 (Pm.at_ d.data.toList 38 2 : Int), .slice none 0 0, .int .i64 0, .int .i64 0, .int .i64 0] 59)))
  have hsz1 : (w1.alloc (.cells #[.int .i64 0, .int .i64 (Pm.at_ d.data.toList 38 2 : Int), .slice none 0 0, .int .i64 0, .int .i64 0, .int .i64 0] 59)).heap.size = w1.heap.size + 1 := by simp
  rw [hsz1] at HN0
  clear hsz1
  generalize (Pm.at_ d.data.toList 38 2 : Int) = nm at *
  go_wp2_with fail
  refine (names_any _).mono ?_
  rintro e w2 ⟨rfl, rfl⟩
  go_wp2_with fail
  go_loopw [9] (fun iv wr => ∃ j : Nat, j ≤ 3 ∧ iv = .int .i64 j ∧ XAt wr w1.heap.size (if (2 : Int) ≠ 0 ∧ (2 : Int) ≤ j then 2 else 0) nm ∧ NmAt wr (w1.heap.size + 1) ∧ Below w1.heap.size w1 wr) (fun iv _ => 3 - (intOf iv).toNat)
  case atStart =>
    refine ⟨0, by omega, rfl, ?_, ?_, ?_⟩
    · rw [if_neg (by omega)]
      exact HX0.out.below ((Below.refl _ _).alloc (Nat.le_refl _) _)
    · exact HN0.out
    · exact ((Below.refl _ _).alloc (Nat.le_refl _) _).alloc (by simp) _
  case round =>
    obtain ⟨j, hj, rfl, hX, hN, hbr⟩ := hrel
    by_cases hlt : j < 3
    · have hnm := hN.rd j hlt
      have hko := kindOf_name (x := (j : Int) + 1) (s := P1) (by omega)
      have f0 := hX.free 0
      have x0 := hX.cells 0 _ rfl
      have HX := Lib.hid hX
      have HN := Lib.hid hN
      have HBR := Lib.hid hbr
      clear hX hN hbr
      by_cases hq : nameK ((j : Int) + 1) = P1
      · have HKJ := Lib.hid (hk.out.symm.trans (hko.1 hq))
        rw [hq] at hnm
        clear hko hq
        go_wp2_with fail
        go_roundw
        case rel =>
          have hKj := HKJ.out
          refine ⟨j + 1, by omega, by go_num, ?_, HN.out.grown (grownSet _ _ _ _) (fun e => by have := Option.some.inj e; omega), HBR.out.setCell (p := ⟨w1.heap.size, 0, none⟩) (Nat.le_refl _) _⟩
          rw [if_pos (by omega)]
          have h := HX.out.set ((j : Int) + 1)
          rw [← hKj] at h ⊢
          exact h
        case measure => simp [intOf]; omega
      · have HKJ : Hid (¬ (2 : Int) = (j : Int) + 1) := Lib.hid (fun e => hq (hko.2 (hk.out.trans e)))
        have hne : (P1 == nameK ((j : Int) + 1)) = false := by rw [beq_eq_false_iff_ne]; exact fun e => hq e.symm
        clear hko hq
        generalize nameK ((j : Int) + 1) = nk at *
        go_wp2_with fail
        go_roundw
        case rel =>
          have hKj := HKJ.out
          refine ⟨j + 1, by omega, by go_num, ?_, HN.out, HBR.out⟩
          have e : (if (2 : Int) ≠ 0 ∧ (2 : Int) ≤ ((j + 1 : Nat) : Int) then (2 : Int) else 0) = if (2 : Int) ≠ 0 ∧ (2 : Int) ≤ j then 2 else 0 := by
            by_cases h : (2 : Int) ≠ 0 ∧ (2 : Int) ≤ j
            · rw [if_pos h, if_pos (by omega)]
            · rw [if_neg h, if_neg (by omega)]
          rw [e]
          exact HX.out
        case measure => simp [intOf]; omega
    · obtain rfl : j = 3 := by omega
      have hXK : XAt wr w1.heap.size 2 nm := by
        have h := hX
        first | (rw [if_pos (by decide)] at h; exact h) | (rw [if_neg (by decide)] at h; exact h)
      have hD := HD1.out.later hbr
      clear hX hN
      have r0 := hD.res 0 _ rfl
      have f0 := hD.free 0
      have r1 := hD.res 1 _ rfl
      have f1 := hD.free 1
      have r2 := hD.res 2 _ rfl
      have f2 := hD.free 2
      have r3 := hD.res 3 _ rfl
      have f3 := hD.free 3
      have r4 := hD.res 4 _ rfl
      have f4 := hD.free 4
      have r5 := hD.res 5 _ rfl
      have f5 := hD.free 5
      have x0 := hXK.cells 0 _ rfl
      have x1 := hXK.cells 1 _ rfl
      have x2 := hXK.cells 2 _ rfl
      have x3 := hXK.cells 3 _ rfl
      have x4 := hXK.cells 4 _ rfl
      have x5 := hXK.cells 5 _ rfl
      have g3 := hXK.free 3
      have g4 := hXK.free 4
      have g5 := hXK.free 5
      have HD := Lib.hid hD
      clear hD hbr
      have CN1 := Lib.hid (fun W => rNumber_any d 40 2 (by decide) (by omega) (by omega) W)
      rw [h8] at CN1
      go_wp2_with fail
      refine (CN1.out _).mono ?_
      rintro e wn ⟨rfl, rfl⟩
      clear CN1
      have hi42 : 42 < d.size := by omega
      have hy42 := Kit.byt_get d 42 hi42
      have hl42 := Cs.byt_lt d.data.toList 42
      have hw42 := IntWalk.wrap64_in (Cs.byt d.data.toList 42 : Int) (by omega)
      have hat := Pm.at_one d.data.toList 42 (by simp; omega)
      rw [hat] at hn
      generalize Cs.byt d.data.toList 42 = n at *
      clear hat
      by_cases hn1 : n < 1
      · have e1 : decide ((n : Int) < 1) = true := decide_eq_true (by omega)
        go_wp2_with fail
        have hf := rdec_fin w _ HD.out.below (.int .i64 0) (.int .i64 0) (.slice none 0 0) (.int .i64 0) (.int .i64 0) (.int .i64 0)
        exact bodyPost_ret (rdec_results _ _ w.heap.size [.int .i64 0, .int .i64 0, .slice none 0 0, .int .i64 0, .int .i64 0, .int .i64 0] (.int .i64 10) rfl rfl rfl hf.1) rfl ⟨_, rfl, rtab_nil _, hf.2⟩
      have e1 : decide ((n : Int) < 1) = false := decide_eq_false (by omega)
      have e2 : decide (4 < (n : Int)) = true := decide_eq_true (by omega)
      go_wp2_with fail
      have hf := rdec_fin w _ HD.out.below (.int .i64 0) (.int .i64 0) (.slice none 0 0) (.int .i64 0) (.int .i64 0) (.int .i64 0)
      exact bodyPost_ret (rdec_results _ _ w.heap.size [.int .i64 0, .int .i64 0, .slice none 0 0, .int .i64 0, .int .i64 0, .int .i64 0] (.int .i64 10) rfl rfl rfl hf.1) rfl ⟨_, rfl, rtab_nil _, hf.2⟩

set_option maxHeartbeats 6400000 in
set_option maxRecDepth 100000 in
/-- masterdiscref37.decode: the second kind, sparable. -/
theorem rdec_two_2 (d : ByteArray) (w : World) (g2 : Cs.byt d.data.toList 0 = 2) (g6 : d.size = 64) (he : (Cs.pentR ((d.data.toList.drop 4).take 32)).2 = 0) (hk : Hid (Pm.kindOf (Cs.pentR ((d.data.toList.drop 4).take 32)).1.1 = 2)) (h8 : Pm.at_ d.data.toList 40 2 = 8) (hn : ¬ (Pm.at_ d.data.toList 42 1 < 1 ∨ 4 < Pm.at_ d.data.toList 42 1)) :
    Calls Tryz.prog 32 #[.string d] w (RdOut (⟨2, (Pm.at_ d.data.toList 38 2 : Int), Pm.tabs d.data.toList (Pm.at_ d.data.toList 42 1), 0, 0, 0⟩, 0) w) := by
  have hi0 : 0 < d.size := by omega
  have hy0 := Kit.byt_get d 0 hi0
  have e1 : ((Cs.byt d.data.toList 0 : Int) != 1) = true := by rw [bne_iff_ne]; omega
  have e2 : ((Cs.byt d.data.toList 0 : Int) != 2) = false := by rw [bne_eq_false_iff_eq]; omega
  have e3 : ((Cs.byt d.data.toList 0 : Int) == 1) = false := by rw [beq_eq_false_iff_ne]; omega
  have e4 : ((d.size : Int) != 64) = false := by rw [bne_eq_false_iff_eq]; omega
  have cp := fun W => rPent_any (d.extract 4 36) W (by simp <;> omega)
  rw [show (d.extract 4 36).data.toList = (d.data.toList.drop 4).take 32 by rw [Lib.extract_data]] at cp
  generalize Cs.pentR ((d.data.toList.drop 4).take 32) = P at *
  obtain ⟨⟨P1, P2⟩, P3⟩ := P
  simp only [] at *
  have CP := Lib.hid cp
  clear cp
  generalize Cs.byt d.data.toList 0 = b0 at *
  go_enter Tryz.func32, Tryz.ntmps32
  go_wp2_with fail
  refine (CP.out _).mono ?_
  rintro e w1 ⟨rfl, hb1⟩
  have hD := (RdAt.start w).later hb1
  clear hb1 CP e1 e2 e3 e4 hy0 g2
  have d7 : (P3 != 0) = false := by rw [bne_eq_false_iff_eq]; exact he
  have HD1 := Lib.hid hD
  clear hD he
  have CN := Lib.hid (fun W => rNumber_any d 38 2 (by decide) (by omega) (by omega) W)
  go_wp2_with fail
  refine (CN.out _).mono ?_
  rintro e wn ⟨rfl, rfl⟩
  clear CN
  have HX0 := Lib.hid (XAt.new w1 (Pm.at_ d.data.toList 38 2 : Int) 59)
  have HN0 := Lib.hid (NmAt.new (w1.alloc (.cells #[.int .i64 0, .int .i64 (Pm.at_ d.data.toList 38 2 : Int), .slice none 0 0, .int .i64 0, .int .i64 0, .int .i64 0] 59)))
  have hsz1 : (w1.alloc (.cells #[.int .i64 0, .int .i64 (Pm.at_ d.data.toList 38 2 : Int), .slice none 0 0, .int .i64 0, .int .i64 0, .int .i64 0] 59)).heap.size = w1.heap.size + 1 := by simp
  rw [hsz1] at HN0
  clear hsz1
  generalize (Pm.at_ d.data.toList 38 2 : Int) = nm at *
  go_wp2_with fail
  refine (names_any _).mono ?_
  rintro e w2 ⟨rfl, rfl⟩
  go_wp2_with fail
  go_loopw [9] (fun iv wr => ∃ j : Nat, j ≤ 3 ∧ iv = .int .i64 j ∧ XAt wr w1.heap.size (if (2 : Int) ≠ 0 ∧ (2 : Int) ≤ j then 2 else 0) nm ∧ NmAt wr (w1.heap.size + 1) ∧ Below w1.heap.size w1 wr) (fun iv _ => 3 - (intOf iv).toNat)
  case atStart =>
    refine ⟨0, by omega, rfl, ?_, ?_, ?_⟩
    · rw [if_neg (by omega)]
      exact HX0.out.below ((Below.refl _ _).alloc (Nat.le_refl _) _)
    · exact HN0.out
    · exact ((Below.refl _ _).alloc (Nat.le_refl _) _).alloc (by simp) _
  case round =>
    obtain ⟨j, hj, rfl, hX, hN, hbr⟩ := hrel
    by_cases hlt : j < 3
    · have hnm := hN.rd j hlt
      have hko := kindOf_name (x := (j : Int) + 1) (s := P1) (by omega)
      have f0 := hX.free 0
      have x0 := hX.cells 0 _ rfl
      have HX := Lib.hid hX
      have HN := Lib.hid hN
      have HBR := Lib.hid hbr
      clear hX hN hbr
      by_cases hq : nameK ((j : Int) + 1) = P1
      · have HKJ := Lib.hid (hk.out.symm.trans (hko.1 hq))
        rw [hq] at hnm
        clear hko hq
        go_wp2_with fail
        go_roundw
        case rel =>
          have hKj := HKJ.out
          refine ⟨j + 1, by omega, by go_num, ?_, HN.out.grown (grownSet _ _ _ _) (fun e => by have := Option.some.inj e; omega), HBR.out.setCell (p := ⟨w1.heap.size, 0, none⟩) (Nat.le_refl _) _⟩
          rw [if_pos (by omega)]
          have h := HX.out.set ((j : Int) + 1)
          rw [← hKj] at h ⊢
          exact h
        case measure => simp [intOf]; omega
      · have HKJ : Hid (¬ (2 : Int) = (j : Int) + 1) := Lib.hid (fun e => hq (hko.2 (hk.out.trans e)))
        have hne : (P1 == nameK ((j : Int) + 1)) = false := by rw [beq_eq_false_iff_ne]; exact fun e => hq e.symm
        clear hko hq
        generalize nameK ((j : Int) + 1) = nk at *
        go_wp2_with fail
        go_roundw
        case rel =>
          have hKj := HKJ.out
          refine ⟨j + 1, by omega, by go_num, ?_, HN.out, HBR.out⟩
          have e : (if (2 : Int) ≠ 0 ∧ (2 : Int) ≤ ((j + 1 : Nat) : Int) then (2 : Int) else 0) = if (2 : Int) ≠ 0 ∧ (2 : Int) ≤ j then 2 else 0 := by
            by_cases h : (2 : Int) ≠ 0 ∧ (2 : Int) ≤ j
            · rw [if_pos h, if_pos (by omega)]
            · rw [if_neg h, if_neg (by omega)]
          rw [e]
          exact HX.out
        case measure => simp [intOf]; omega
    · obtain rfl : j = 3 := by omega
      have hXK : XAt wr w1.heap.size 2 nm := by
        have h := hX
        first | (rw [if_pos (by decide)] at h; exact h) | (rw [if_neg (by decide)] at h; exact h)
      have hD := HD1.out.later hbr
      clear hX hN
      have HX := Lib.hid hXK
      have HBR := Lib.hid hbr
      have x0 := hXK.cells 0 _ rfl
      clear hXK hbr hD
      have CN1 := Lib.hid (fun W => rNumber_any d 40 2 (by decide) (by omega) (by omega) W)
      rw [h8] at CN1
      go_wp2_with fail
      refine (CN1.out _).mono ?_
      rintro e wn ⟨rfl, rfl⟩
      clear CN1
      have hi42 : 42 < d.size := by omega
      have hy42 := Kit.byt_get d 42 hi42
      have hl42 := Cs.byt_lt d.data.toList 42
      have hw42 := IntWalk.wrap64_in (Cs.byt d.data.toList 42 : Int) (by omega)
      have hat := Pm.at_one d.data.toList 42 (by simp; omega)
      rw [hat] at hn
      have HAT := Lib.hid hat
      have CT := Lib.hid (fun (W : World) (j : Nat) (hj : j < 4) => rNumber_any d (48 + 4 * j) 4 (by decide) (by omega) (by omega) W)
      generalize Cs.byt d.data.toList 42 = n at *
      have e1 : decide ((n : Int) < 1) = false := decide_eq_false (by omega)
      have e2 : decide (4 < (n : Int)) = false := decide_eq_false (by omega)
      clear hat
      go_wp2_with fail
      go_loopw [10] (fun iv wq => ∃ j : Nat, j ≤ n ∧ iv = .int .i64 j ∧ (∃ tv, XTab wq w1.heap.size nm tv ∧ wq.ownsRow (w1.heap.size + 1) 3 1 tv j (Kit.izs (Pm.tabs d.data.toList j))) ∧ Below w1.heap.size w1 wq) (fun iv _ => n - (intOf iv).toNat)
      case atStart => exact ⟨0, by omega, rfl, ⟨_, ⟨HX.out.cells, HX.out.free, HX.out.lt⟩, ⟨rfl, Or.inl ⟨rfl, rfl⟩⟩⟩, HBR.out⟩
      case round =>
        obtain ⟨j, hj, rfl, ⟨tv, hxt, hown⟩, hbq⟩ := hrel
        by_cases hlt : j < n
        · have t2 := hxt.cells 2 _ rfl
          have f2 := hxt.free 2
          have HOWN := Lib.hid hown.drew
          have t2a := fun o => (((Below.refl _ wr).alloc (Nat.le_refl _) o).cell (p := ⟨w1.heap.size, 2, none⟩) hxt.lt).trans t2
          have T2 := Lib.hid (show wr.drew.cell? ⟨w1.heap.size, 2, none⟩ = some tv from t2)
          have F2 := Lib.hid (show wr.drew.frozen? ⟨w1.heap.size, 2, none⟩ = false from f2)
          have HXT := Lib.hid hxt
          have hle := tabs_len d.data.toList j
          have hsn := tabs_snoc d.data.toList j
          have HSN := Lib.hid hsn
          have HCT := Lib.hid (fun W => CT.out W j (by omega))
          have HB2' : Hid ((j + 1) * 8 ≤ 140737488355328) := Lib.hid (by omega)
          have HB3 : Hid (w1.heap.size + 1 ≤ wr.drew.heap.size) := Lib.hid hxt.lt
          have HBQ := Lib.hid hbq
          obtain ⟨At, ct, rfl, _⟩ := Kit.Row.of_own hown
          rw [Kit.izs_length] at *
          simp only [hle] at *
          clear hown hxt hsn hle hbq
          generalize hq4 : (Pm.at_ d.data.toList (48 + 4 * j) 4 : Nat) = qv at *
          clear hq4
          generalize Pm.tabs d.data.toList j = tj at *
          have w4j : IntKind.i64.wrap (4 * (j : Int)) = 4 * (j : Int) := IntWalk.i64_in _ (by omega)
          have w48 : IntKind.i64.wrap (48 + 4 * (j : Int)) = 48 + 4 * (j : Int) := IntWalk.i64_in _ (by omega)
          have hpc : (((48 + 4 * j : Nat) : Nat) : Int) = 48 + 4 * (j : Int) := by omega
          rw [hpc] at HCT
          clear hpc
          go_wp2_with fail
          go_region_law (first | ((refine Kit.step_app intInfo2 (by rfl) (by decide) (by rfl) (.tmp 91) (.tmp 97) 32 (by rfl) Tryz.underlying32 (w1.heap.size + 1) _ _ _ (by rfl) (by exact HOWN.out) [.int .i64 (qv : Int)] 1 1 (by rfl) (by rfl) (by exact Kit.one_izs [(qv : Int)]) (by rfl) HB2'.out HB3.out ?_; intro v' w' ho' hb'; have HO' := Lib.hid ho'; have HB' := Lib.hid hb'; have hc2 := (hb'.cell (p := ⟨w1.heap.size, 2, none⟩) (Nat.lt_succ_self _)).trans T2.out; have hf2 := (hb'.frozen (p := ⟨w1.heap.size, 2, none⟩) (Nat.lt_succ_self _)).trans F2.out; obtain ⟨A', c', rfl⟩ := slice_of_own ho'; clear ho' hb')) | ((go_simp; go_at_call 62; refine (HCT.out _).mono ?_; rintro e wn ⟨rfl, rfl⟩)))
          all_goals
            have hbn : Below (w1.heap.size + 1) wr w' := ((Below.refl (w1.heap.size + 1) wr).drew).trans HB'.out
            have hxp := HXT.out.put hbn (.slice A' (j + 1) c')
            have hop := own_set1 (i := 2) HO'.out (.slice A' (j + 1) c')
            have hbp := HBQ.out.trans ((hbn.mono (Nat.le_succ _)).setCell (p := ⟨w1.heap.size, 2, none⟩) (Nat.le_refl _) (.slice A' (j + 1) c'))
            have HXP := Lib.hid hxp
            have HOP := Lib.hid hop
            have HBP := Lib.hid hbp
            clear hbn hxp hop hbp
            go_wp2_with fail
            go_roundw
            case rel => exact ⟨j + 1, by omega, by go_num, ⟨_, HXP.out, by rw [HSN.out, Kit.izs_append]; exact HOP.out⟩, HBP.out⟩
            case measure => simp [intOf]; omega
        · obtain rfl : j = n := by omega
          have hD := HD1.out.later hbq
          have r0 := hD.res 0 _ rfl
          have f0 := hD.free 0
          have r1 := hD.res 1 _ rfl
          have f1 := hD.free 1
          have r2 := hD.res 2 _ rfl
          have f2 := hD.free 2
          have r3 := hD.res 3 _ rfl
          have f3 := hD.free 3
          have r4 := hD.res 4 _ rfl
          have f4 := hD.free 4
          have r5 := hD.res 5 _ rfl
          have f5 := hD.free 5
          have x0 := hxt.cells 0 _ rfl
          have x1 := hxt.cells 1 _ rfl
          have x2 := hxt.cells 2 _ rfl
          have x3 := hxt.cells 3 _ rfl
          have x4 := hxt.cells 4 _ rfl
          have x5 := hxt.cells 5 _ rfl
          have HD := Lib.hid hD
          have HOWN := Lib.hid hown
          have hle := tabs_len d.data.toList j
          have hsz := HD1.out.size
          have HSZ := Lib.hid (show w.heap.size < w1.heap.size + 1 by omega)
          obtain ⟨At, ct, rfl, _⟩ := Kit.Row.of_own hown
          rw [Kit.izs_length] at *
          simp only [hle] at *
          have HLE := Lib.hid (tabs_len d.data.toList j)
          clear hown hxt hD hle hbq hsz
          generalize htj : Pm.tabs d.data.toList j = tj at *
          have HTJ := Lib.hid htj
          clear htj
          go_wp2_with fail
          have hf := rdec_fin w _ HD.out.below (.int .i64 2) (.int .i64 nm) (.slice At j ct) (.int .i64 0) (.int .i64 0) (.int .i64 0)
          have ho := own_sets HOWN.out HSZ.out (.int .i64 2) (.int .i64 nm) (.slice At j ct) (.int .i64 0) (.int .i64 0) (.int .i64 0)
          exact bodyPost_ret (rdec_results _ _ w.heap.size [.int .i64 2, .int .i64 nm, .slice At j ct, .int .i64 0, .int .i64 0, .int .i64 0] (.int .i64 0) rfl rfl rfl hf.1) rfl ⟨_, rfl, by show Pm.Tab _ _ (Pm.tabs d.data.toList (Pm.at_ d.data.toList 42 1)); unfold Pm.Tab; rw [HAT.out, HTJ.out, HLE.out]; exact ho, hf.2⟩

end Go.Proofs.YtlcdhlfkffkifaaGreatDoor

/-
  The reference's decode of a map, whole; its Decode.
-/
namespace Go.Proofs.YtlcdhlfkffkifaaGreatDoor
open Go.RowKit

theorem rdBad {s : Pm.M × Int} {W : World} {c : Int} (hs : s = (Pm.none, c)) {f : FuncId} {args : Array Value} (h : Calls Tryz.prog f args W (RdOut (Pm.none, c) W)) : Calls Tryz.prog f args W (RdOut s W) := by
  subst hs
  exact h
/-- masterdiscref37.decode. -/
theorem rdec_any (d : ByteArray) (w : World) (h2 : 2 ≤ d.size) (hs : d.size ≤ 4096) : Calls Tryz.prog 32 #[.string d] w (RdOut (Pm.rstep d.data.toList) w) := by
  have hl : d.data.toList.length = d.size := by simp
  unfold Pm.rstep
  rw [hl]
  by_cases g1 : Cs.byt d.data.toList 0 = 1
  · rw [if_neg (by omega), if_pos g1]
    by_cases g6 : d.size = 6
    · rw [if_neg (by omega)]
      exact rdec_one d w g1 g6
    · rw [if_pos g6]
      exact rdec_one_bad d w h2 g1 g6 hs
  by_cases g2 : Cs.byt d.data.toList 0 = 2
  case neg =>
    rw [if_pos ⟨g1, g2⟩]
    exact rdec_unknown d w h2 g1 g2 hs
  rw [if_neg (by omega), if_neg g1]
  by_cases g64 : d.size = 64
  case neg =>
    rw [if_pos g64]
    exact rdec_two_bad d w h2 g2 g64 hs
  rw [if_neg (by omega)]
  unfold Pm.stepB
  by_cases he : (Cs.pentR ((d.data.toList.drop 4).take 32)).2 = 0
  case neg =>
    rw [if_pos he]
    exact rdec_two_err d w g2 g64 he
  have hne : ¬ (Cs.pentR ((d.data.toList.drop 4).take 32)).2 ≠ 0 := fun h => h he
  rw [if_neg hne]
  dsimp only
  rcases kindOf_range (Cs.pentR ((d.data.toList.drop 4).take 32)).1.1 with hk | hk | hk | hk
  · rw [if_pos hk]
    exact rdec_two_0 d w g2 g64 he (Lib.hid hk)
  · have := rdec_two_1 d w g2 g64 he (Lib.hid hk)
    rw [hk, if_neg (by decide), if_neg (by decide), if_neg (by decide)]
    exact this
  · rw [hk, if_neg (by decide), if_pos rfl]
    by_cases h8 : Pm.at_ d.data.toList 40 2 = 8
    case neg =>
      rw [if_pos h8]
      exact rdec_two_2a d w g2 g64 he (Lib.hid hk) h8
    rw [if_neg (fun h => h h8)]
    by_cases hn : Pm.at_ d.data.toList 42 1 < 1 ∨ 4 < Pm.at_ d.data.toList 42 1
    · rw [if_pos hn]
      exact rdec_two_2b d w g2 g64 he (Lib.hid hk) h8 hn
    · rw [if_neg hn]
      exact rdec_two_2 d w g2 g64 he (Lib.hid hk) h8 hn
  · have := rdec_two_3 d w g2 g64 he (Lib.hid hk)
    rw [hk, if_neg (by decide), if_neg (by decide), if_pos rfl]
    exact this

theorem OwnM_empty (w : World) : Pm.OwnM (w.alloc (.cells #[] 59)) w.heap.size (.slice (some ⟨w.heap.size, 0, none⟩) 0 0) [] :=
  ⟨⟨by simp [Pm.cellsL], .inr ⟨w.heap.size, 0, #[], rfl, Nat.le_refl _, heap_alloc_new w _, Nat.le_refl _, by simp [maxLen], by simp, by simp [Pm.cellsL]⟩⟩, fun p hp => by simp at hp, fun p hp => by simp at hp⟩

set_option maxHeartbeats 3200000 in
set_option maxRecDepth 100000 in
/-- masterdiscref37.Decode. -/
theorem rDecode_all (d : ByteArray) (count : Int) (w : World) (hs : d.size ≤ 4096) :
    Calls Tryz.prog 14 #[.string d, .int .i64 count] w (DecodeOut (Pm.decR d.data.toList count) w) := by
  by_cases h0 : count < 0
  · have e0 : decide (count < 0) = true := decide_eq_true h0
    have hr : Hid (Pm.decR d.data.toList count = ([], 1)) := Lib.hid (by unfold Pm.decR; rw [if_pos h0])
    go_enter Tryz.func14, Tryz.ntmps14
    go_wp2_with fail
    go_ret2
    rw [hr.out]
    exact decodeErr 1 _ _ (Below.refl _ _)
  by_cases h4 : 4 < count
  · have e0 : decide (count < 0) = false := decide_eq_false h0
    have e4 : decide (4 < count) = true := decide_eq_true h4
    have hr : Hid (Pm.decR d.data.toList count = ([], 7)) := Lib.hid (by unfold Pm.decR; rw [if_neg h0, if_pos h4])
    go_enter Tryz.func14, Tryz.ntmps14
    go_wp2_with fail
    go_ret2
    rw [hr.out]
    exact decodeErr 7 _ _ (Below.refl _ _)
  obtain ⟨n, rfl⟩ : ∃ n : Nat, count = (n : Int) := ⟨count.toNat, by omega⟩
  have hn4 : n ≤ 4 := by omega
  have hr : Hid (Pm.decR d.data.toList (n : Int) = Pm.decN n d.data.toList []) := Lib.hid (by unfold Pm.decR; rw [if_neg h0, if_neg h4]; rfl)
  have e0 : decide ((n : Int) < 0) = false := decide_eq_false h0
  have e4 : decide (4 < (n : Int)) = false := decide_eq_false h4
  have CD := Lib.hid (fun (s : ByteArray) (W : World) h hs => rdec_any s W h hs)
  have HOE := Lib.hid (OwnM_empty w)
  clear h0 h4
  go_enter Tryz.func14, Tryz.ntmps14
  go_wp2_with fail
  go_loopw [0, 6, 7] (fun ds v iv wr => ∃ (j : Nat) (s : ByteArray) (L : List (Pm.M × Value)), j ≤ n ∧ iv = .int .i64 j ∧ ds = .string s ∧ s.size ≤ 4096 ∧ L.length = j ∧ Pm.decN n d.data.toList [] = Pm.decN (n - j) s.data.toList (L.map Prod.fst) ∧ Pm.OwnM wr w.heap.size v L ∧ Below w.heap.size w wr) (fun _ _ iv _ => n - (intOf iv).toNat)
  case atStart => exact ⟨0, d, [], by omega, rfl, rfl, hs, rfl, rfl, HOE.out, (Below.refl _ _).alloc (Nat.le_refl _) _⟩
  case round =>
    obtain ⟨j, s, L, hj, rfl, rfl, hss, hL, heq, hown, hbr⟩ := hrel
    by_cases hlt : j < n
    · have hdn : Pm.decN (n - j) s.data.toList (L.map Prod.fst) = if (Pm.stepR s.data.toList).2.2 ≠ 0 then ([], (Pm.stepR s.data.toList).2.2) else Pm.decN (n - j - 1) (s.data.toList.drop (Pm.stepR s.data.toList).2.1) (L.map Prod.fst ++ [(Pm.stepR s.data.toList).1]) := by
        obtain ⟨q, hq⟩ : ∃ q, n - j = q + 1 := ⟨n - j - 1, by omega⟩
        rw [hq]
        rfl
      have HDN := Lib.hid (heq.trans hdn)
      have HOWN := Lib.hid hown
      have HBR := Lib.hid hbr
      have hlen : s.data.toList.length = s.size := by simp
      clear heq hdn hown hbr
      by_cases hsh : s.size < 2 ∨ s.size < Cs.byt s.data.toList 1
      · have hst : Pm.stepR s.data.toList = (Pm.none, 0, 10) := by unfold Pm.stepR; rw [hlen, if_pos hsh]
        rw [hst] at HDN
        clear hst hlen
        by_cases h2 : s.size < 2
        · have d2 : decide ((s.size : Int) < 2) = true := decide_eq_true (by omega)
          go_wp2_with fail
          go_ret2
          rw [hr.out, HDN.out]
          exact decodeErr 10 _ _ HBR.out
        · have hi : 1 < s.size := by omega
          have hb := Kit.byt_get s 1 hi
          have hl1 := Cs.byt_lt s.data.toList 1
          have hw1 := IntWalk.wrap64_in (Cs.byt s.data.toList 1 : Int) (by omega)
          have d2 : decide ((s.size : Int) < 2) = false := decide_eq_false (by omega)
          have d3 : decide ((s.size : Int) < (Cs.byt s.data.toList 1 : Int)) = true := decide_eq_true (by omega)
          go_wp2_with fail
          go_ret2
          rw [hr.out, HDN.out]
          exact decodeErr 10 _ _ HBR.out
      · have hi : 1 < s.size := by omega
        have hb := Kit.byt_get s 1 hi
        have hl1 := Cs.byt_lt s.data.toList 1
        have hw1 := IntWalk.wrap64_in (Cs.byt s.data.toList 1 : Int) (by omega)
        have d2 : decide ((s.size : Int) < 2) = false := decide_eq_false (by omega)
        have d3 : decide ((s.size : Int) < (Cs.byt s.data.toList 1 : Int)) = false := decide_eq_false (by omega)
        obtain ⟨q, hq⟩ : ∃ q : Nat, q = max 2 (Cs.byt s.data.toList 1) := ⟨_, rfl⟩
        have hrs := Pm.rstep_of s.data.toList q (by rw [hlen]; exact hsh) hq
        have hfit := step_fit s.data.toList
        have hml : q ≤ s.size := by omega
        have hml' : (q : Int) ≤ (s.size : Int) := by omega
        have hq0 : (0 : Int) ≤ (q : Int) := by omega
        have hmx : (max 2 (Cs.byt s.data.toList 1 : Int)) = (q : Int) := by omega
        have CDs := CD.out (s.extract 0 q) wr (by simp; omega) (by simp; omega)
        rw [show (s.extract 0 q).data.toList = s.data.toList.take q by rw [Lib.extract_data]; simp, hrs.1] at CDs
        have HC := Lib.hid CDs
        have HSZ := Lib.hid hrs.2
        have HFIT := Lib.hid hfit.1
        have hrd : (s.extract q s.size).data.toList = s.data.toList.drop q := by
          rw [Lib.extract_data, List.take_of_length_le (by simp)]
        have hrs' : (s.extract q s.size).size ≤ 4096 := by simp; omega
        have HRD := Lib.hid hrd
        have HRS := Lib.hid hrs'
        have HL8 : Hid (L.length ≤ 64) := Lib.hid (by omega)
        clear hrs hfit CDs hsh hq hrd hrs'
        generalize Pm.stepR s.data.toList = st at *
        obtain ⟨⟨k, nm, ts, f, mi, bm⟩, z, er⟩ := st
        simp only [] at *
        go_wp2_with fail
        refine HC.out.mono ?_
        rintro e w1 ⟨tv, rfl, ht1, hb1⟩
        simp only [Pm.pmV] at *
        obtain ⟨TA, tc, htv, _⟩ := Kit.RowS.of_own ht1 |>.1
        subst htv
        rw [Kit.izs_length] at *
        by_cases hz : er = 0
        · subst hz
          have hzq : z = q := HSZ.out rfl
          rw [hzq] at HDN
          have HT1 := Lib.hid (fun o => show Pm.Tab (w1.alloc o) _ ts from Kit.own_below ht1 ((Below.refl _ w1).alloc (Nat.le_refl _) o))
          have HO1 := Lib.hid (fun o => (HOWN.out.below hb1).below ((Below.refl _ w1).alloc (Nat.le_refl _) o))
          have HB0 := Lib.hid (fun o => HBR.out.trans ((hb1.mono HBR.out.size).trans ((Below.refl w.heap.size w1).alloc (Nat.le_trans HBR.out.size hb1.size) o)))
          have HSW := Lib.hid (Nat.le_trans HBR.out.size hb1.size)
          clear ht1 hb1 hzq
          go_wp2_with (at_builtin; refine pushM rfl (.tmp 46) (.tmp 48) rfl w.heap.size _ L rfl (HO1.out _) (⟨k, nm, ts, f, mi, bm⟩, .slice TA ts.length tc) (HT1.out _) HFIT.out 1 (w1.heap.size + 1) rfl ?q1 HL8.out ?q2 ?_)
          try (case q1 => simp)
          case q2 => have := HSW.out; simp; omega
          intro v' w' ho' hb'
          have HO' := Lib.hid ho'
          have HB' := Lib.hid hb'
          clear ho' hb'
          go_wp2_with fail
          go_roundw
          case rel =>
            refine ⟨j + 1, _, L ++ [(⟨k, nm, ts, f, mi, bm⟩, .slice TA ts.length tc)], by omega, by go_num, rfl, HRS.out, by simp [hL], ?_, HO'.out, (HB0.out _).trans HB'.out⟩
            rw [HDN.out, if_neg (fun h => h rfl), HRD.out, List.map_append]
            rfl
          case measure => simp [intOf]; omega
        · have dz : (er != 0) = true := by rw [bne_iff_ne]; exact hz
          have HB1 := Lib.hid hb1
          clear ht1 hb1
          go_wp2_with fail
          go_ret2
          rw [hr.out, HDN.out, if_pos hz]
          exact decodeErr er _ _ ((HBR.out.trans (HB1.out.mono HBR.out.size)).trans ((Below.refl _ _).alloc (Nat.le_trans HBR.out.size HB1.out.size) _))
    · obtain rfl : j = n := by omega
      have HOWN := Lib.hid hown
      have HBR := Lib.hid hbr
      have HEQ := Lib.hid heq
      clear hown hbr heq
      by_cases hs0 : s.size = 0
      · have e1 := Kit.is_empty s hs0
        have e2 : s.toList = [] := List.isEmpty_iff.1 e1
        go_wp2_with fail
        go_ret2
        refine ⟨_, L, ?_, ?_, HOWN.out, HBR.out⟩
        · rw [hr.out, HEQ.out, Nat.sub_self]
          have : s.data.toList = [] := by rw [← Lib.toList_data]; exact e2
          unfold Pm.decN
          rw [if_pos this]
          rfl
        · rw [hr.out, HEQ.out, Nat.sub_self]
          have : s.data.toList = [] := by rw [← Lib.toList_data]; exact e2
          unfold Pm.decN
          rw [if_pos this]
      · have e1 := Kit.not_empty s (by omega)
        have e3 : (!s.toList.isEmpty) = true := by rw [e1]; rfl
        go_wp2_with fail
        go_ret2
        have : ¬ s.data.toList = [] := by rw [← Lib.toList_data]; intro h; rw [h] at e1; cases e1
        rw [hr.out, HEQ.out, Nat.sub_self]
        unfold Pm.decN
        rw [if_neg this]
        exact decodeErr 10 _ _ HBR.out
end Go.Proofs.YtlcdhlfkffkifaaGreatDoor
