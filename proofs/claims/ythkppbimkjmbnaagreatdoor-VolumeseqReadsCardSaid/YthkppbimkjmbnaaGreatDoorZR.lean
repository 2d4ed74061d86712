/-
  The walk through volumeseq.Sequence.
-/
import Derived.Test.YthkppbimkjmbnaaGreatDoorZQ
import Derived.Deep.DeepCutAuto
import Derived.Deep.MidRow
namespace Go.Proofs.YthkppbimkjmbnaaGreatDoor
open Go.RowKit
open Vs (bs by_)
section
variable {P : Program}
/-- A struct in a row is read whole. -/
theorem load_row {W : World} {g o n : Nat} {t : TypeId} {fr : Nat × Nat} {cs : List Value} (ty : TypeId) (d : TypeDesc) (h : W.heap[g]? = some (.cells cs.toArray t fr)) (hu : P.underlying ty = some d) (hd : d.isRow = true) (hi : (P.info? ty).map (·.size) = some n) (ho : o + n ≤ cs.length) :
    (loadVar ty ⟨g, o, none⟩).run P W = .ok (.agg ((cs.drop o).take n).toArray) W := by
  refine run_loadVar_mid (P := P) W g o ty ((cs.drop o).take n) d (fun j v hv => ?_) hu hd (by rw [hi, List.length_take, List.length_drop]; congr 1; omega)
  rw [cell_of_row _ _ _ _ _ _ h, List.getElem?_toArray]
  have hj : j < n := by
    have := (List.getElem?_eq_some_iff.1 hv).1
    rw [List.length_take] at this
    omega
  rw [List.getElem?_take_of_lt hj, List.getElem?_drop] at hv
  exact hv
theorem wpList_load_at {ops : Array Oper} {rest : List Oper} {o : Oper} {a : Act} {w : World} {Q : Exit → Act → World → Prop} (ty : TypeId) (x : Operand) (ho : o.op = .load ty x) (g f : Nat) (hx : a.eval x = .pointer (some ⟨g, f, none⟩)) (v : Value) (hl : (loadVar ty ⟨g, f, none⟩).run P w = .ok v w)
    (hw : Region.wanted o (yielded ops a.tmps) = true) (h : wpList P ops Q rest (a.put o.dst v) w) : wpList P ops Q (o :: rest) a w :=
  wpList_step fun K hK => by
    rw [if_pos hw]
    unfold Oper.wp execOp
    simp only [ho, hx, Instr.loadAt, Instr.sureAddr, Sem.run_bind, Sem.run_pure, Result.andThen_ok, hl]
    exact hK _ _ h
end
namespace Vs
structure SeqB (w w' : World) (D0 V0 P0 : Array Value) (loc : Int) (ib ob vb pb : Nat) : Prop where
  bel : Below w.heap.size w w'
  hd : w'.heap[w.heap.size]? = some (.cells D0 46 (0, 0))
  hl : w'.heap[w.heap.size + 1]? = some (.cells #[.int .i64 loc] 3 (0, 0))
  hi : w'.heap[ib]? = some (.cells #[.string (bs implL)] 9 (0, 0))
  ho : w'.heap[ob]? = some (.cells #[.slice none 0 0] 31 (0, 0))
  hv : w'.heap[vb]? = some (.cells V0 38 (0, 0))
  hp : w'.heap[pb]? = some (.cells P0 40 (0, 0))
  lo : w.heap.size + 1 < ob
  ni : ib ≠ ob
  nv : vb ≠ ob
  np : pb ≠ ob
theorem SeqB.rows {w w1 W : World} {D0 V0 P0 : Array Value} {loc : Int} {ib ob vb pb : Nat} {l : List ByteArray} (h : SeqB w w1 D0 V0 P0 loc ib ob vb pb) (q : Sq w1 w.heap.size ob l W) :
    W.heap[w.heap.size]? = some (.cells D0 46 (0, 0)) ∧ W.heap[w.heap.size + 1]? = some (.cells #[.int .i64 loc] 3 (0, 0)) ∧ W.heap[ib]? = some (.cells #[.string (bs implL)] 9 (0, 0)) ∧ W.heap[vb]? = some (.cells V0 38 (0, 0)) ∧ W.heap[pb]? = some (.cells P0 40 (0, 0)) ∧ Below w.heap.size w W := by
  have hlo := h.lo
  have g : ∀ (k : Nat) (o : Obj), k ≠ ob → w1.heap[k]? = some o → W.heap[k]? = some o := fun k o hne hk => (q.keep k (Array.getElem?_eq_some_iff.1 hk).1 hne).trans hk
  exact ⟨g _ _ (by omega) h.hd, g _ _ (by omega) h.hl, g _ _ h.ni h.hi, g _ _ h.nv h.hv, g _ _ h.np h.hp, h.bel.trans q.bel⟩
theorem own_head {w : World} {base e n : Nat} {v : Value} {xs : List Value} (h : w.ownsRow base e 1 v (n + 1) xs) : ∃ g cap, v = .slice (some ⟨g, 0, none⟩) (n + 1) cap := by
  rcases h.2 with ⟨_, h0⟩ | ⟨g, cap, _, rfl, _⟩
  · omega
  · exact ⟨g, cap, rfl⟩
def boxLen (w : World) (ob : Nat) : Nat := match w.cell? ⟨ob, 0, none⟩ with
  | some (.slice _ n _) => n
  | _ => 0
/-- The bodies' fields, for the walk. -/
theorem prim_fills (d : D) (h : okD d = true) (s1 : d.vol.name.size ≤ 9223372036854775807) (s2 : d.vol.set.size ≤ 9223372036854775807) : ∃ L, bodyL L 496 = primL d.vol ∧ ∀ (W : World) (vb ib : Nat), W.heap[vb]? = some (.cells (volC d.vol) 38 (0, 0)) → W.heap[ib]? = some (.cells #[.string (bs implL)] 9 (0, 0)) → Lib.Utf8Tabs 1 2 W → Fills 66 #[.pointer (some ⟨vb, 0, none⟩), .pointer (some ⟨ib, 0, none⟩)] W L := by
  obtain ⟨h1, h2, h3⟩ := (okD_iff d).1 h
  have hn := named_text ((okLog_iff d).1 h3).1
  have hs := ((okVol_iff d.vol).1 h1)
  exact ⟨_, body_prim d.vol (fld32 hn) (fld128 hs.1) (stampR_len hs.2.2.2.2.2), fun W vb ib q1 q2 q3 => fillPrim_any W vb ib d.vol h1 hn s1 s2 q1 q2 q3⟩
theorem part_fills (d : D) (h : okD d = true) : ∃ L, bodyL L 496 = partL d.part ∧ ∀ (W : World) (pb ib : Nat), W.heap[pb]? = some (.cells (partC d.part) 40 (0, 0)) → W.heap[ib]? = some (.cells #[.string (bs implL)] 9 (0, 0)) → Fills 71 #[.pointer (some ⟨pb, 0, none⟩), .pointer (some ⟨ib, 0, none⟩)] W L := by
  obtain ⟨h1, h2, h3⟩ := (okD_iff d).1 h
  exact ⟨_, body_part d.part, fun W pb ib q1 q2 => fillPart_any W pb ib d.part h2 q1 q2⟩
theorem log_fills (d : D) (h : okD d = true) (s1 : d.vol.name.size ≤ 9223372036854775807) : ∃ L, bodyL L (424 + d.table.size) = logL d ∧ ∀ (W : World) (vb db ib : Nat), W.heap[vb]? = some (.cells (volC d.vol) 38 (0, 0)) → W.heap[db]? = some (.cells (dC d) 46 (0, 0)) → W.heap[ib]? = some (.cells #[.string (bs implL)] 9 (0, 0)) → Lib.Utf8Tabs 1 2 W → Fills 72 #[.pointer (some ⟨vb, 0, none⟩), .pointer (some ⟨db, 0, none⟩), .pointer (some ⟨ib, 0, none⟩)] W L := by
  obtain ⟨h1, h2, h3⟩ := (okD_iff d).1 h
  have hk := (okLog_iff d).1 h3
  exact ⟨_, body_log d (fld128 (named_text hk.1)) hk.2.2.2.1, fun W vb db ib q1 q2 q3 q4 => fillLog_any W vb db ib d h3 s1 q1 q2 q3 q4⟩
end Vs

set_option maxHeartbeats 12800000 in
set_option maxRecDepth 100000 in
/-- Sequence: the location is out of range. -/
theorem seq_range (d : Vs.D) (loc : Int) (w : World) (hT : Lib.Utf8Tabs 1 2 w) (hl : ¬ (0 ≤ loc ∧ loc ≤ 4294967280)) (s1 : d.vol.name.size ≤ 9223372036854775807) (s2 : d.vol.set.size ≤ 9223372036854775807) (s3 : d.table.size ≤ 9223372036854775807) :
    Calls Tryz.prog 23 #[.agg (Vs.dC d), .int .i64 loc] w fun e w' => ∃ v, e = .returned (.tuple #[v, .int .i64 (Vs.seqE d loc)]) ∧ w'.ownsRow w.heap.size 9 1 v (Vs.seqR d loc).length (Vs.strs (Vs.seqR d loc)) ∧ Below w.heap.size w w' := by
  have HE := Lib.hid (show Vs.seqE d loc = if (decide (0 ≤ loc) && decide (loc ≤ 4294967280)) = true then (if Vs.okD d = true then 0 else 1) else 2 from rfl)
  have HR := Lib.hid (show Vs.seqR d loc = if Vs.seqE d loc = 0 then Vs.seqL d loc.toNat else [] from rfl)
  have HNIL := Lib.hid (fun (W : World) => (show W.ownsRow w.heap.size 9 1 (.slice none 0 0) ([] : List ByteArray).length (Vs.strs []) from ⟨rfl, Or.inl ⟨rfl, rfl⟩⟩))
  have HSL := Lib.hid (show Vs.seqL d loc.toNat = [bs (Vs.blk 1 1 loc.toNat (Vs.primL d.vol)), bs (Vs.blk 5 1 (loc.toNat + 1) (Vs.partL d.part)), bs (Vs.blk 6 1 (loc.toNat + 2) (Vs.logL d)), bs (Vs.blk 7 1 (loc.toNat + 3) Vs.unalL), bs (Vs.blk 8 1 (loc.toNat + 4) (Vs.z 496))] ++ List.replicate 11 (bs (Vs.z 2048)) from rfl)
  have HOK := Lib.hid (show Vs.okD d = (Vs.okVol d.vol && (Vs.okPart d.part && Vs.okLog d)) from rfl)
  have HTS := Lib.hid (fun h : Vs.okD d = true => ((Vs.okLog_iff d).1 ((Vs.okD_iff d).1 h).2.2).2.2.2.1)
  have CV := Lib.hid (fun W (h : Lib.Utf8Tabs 1 2 W) => vVolume_any d.vol W h s2)
  have CP := Lib.hid (fun W => vPart_any d.part W)
  have CL := Lib.hid (fun W (h : Lib.Utf8Tabs 1 2 W) => vLogical_any d W h s1 s3)
  have CI := Lib.hid vImpl
  have F1 := Lib.hid (fun h => Vs.prim_fills d h s1 s2)
  have F2 := Lib.hid (fun h => Vs.part_fills d h)
  have F3 := Lib.hid (fun h => Vs.log_fills d h s1)
  have HB0 := Lib.hid (((Below.refl w.heap.size w).alloc (Nat.le_refl _) (.cells (Vs.dC d) 46)).alloc (by simp) (.cells #[.int .i64 loc] 3))
  have HN1 := Lib.hid (heap_alloc2_old w (.cells (Vs.dC d) 46) (.cells #[.int .i64 loc] 3))
  have HN2 := Lib.hid (heap_alloc2_new w (.cells (Vs.dC d) 46) (.cells #[.int .i64 loc] 3))
  have HTW := Lib.hid (fun W (h : Below w.heap.size w W) => Kit.tabs_below hT h)
  clear hT
  obtain ⟨⟨name, set, pub, prep, app, n, dd, tm⟩, ⟨pn, pa, ps, pc, pbs, pbc⟩, maps, table, fk, fl, fb, fp, ist, ic⟩ := d
  unfold Vs.volC at *
  unfold Vs.partC at *
  unfold Vs.dC at *
  simp only [] at *
  generalize Vs.seqE ⟨⟨name, set, pub, prep, app, n, dd, tm⟩, ⟨pn, pa, ps, pc, pbs, pbc⟩, maps, table, fk, fl, fb, fp, ist, ic⟩ loc = E at *
  generalize Vs.seqR ⟨⟨name, set, pub, prep, app, n, dd, tm⟩, ⟨pn, pa, ps, pc, pbs, pbc⟩, maps, table, fk, fl, fb, fp, ist, ic⟩ loc = RL at *
  generalize Vs.okD ⟨⟨name, set, pub, prep, app, n, dd, tm⟩, ⟨pn, pa, ps, pc, pbs, pbc⟩, maps, table, fk, fl, fb, fp, ist, ic⟩ = OK at *
  generalize Vs.okVol ⟨name, set, pub, prep, app, n, dd, tm⟩ = bV at *
  generalize Vs.okPart ⟨pn, pa, ps, pc, pbs, pbc⟩ = bP at *
  generalize Vs.okLog ⟨⟨name, set, pub, prep, app, n, dd, tm⟩, ⟨pn, pa, ps, pc, pbs, pbc⟩, maps, table, fk, fl, fb, fp, ist, ic⟩ = bL at *

  have HE2 := Lib.hid (show E = 2 from HE.out.trans (if_neg (by rw [Bool.and_eq_true, decide_eq_true_eq, decide_eq_true_eq]; exact hl)))
  have HR2 := Lib.hid (show RL = [] from HR.out.trans (if_neg (by rw [HE2.out]; decide)))
  clear F1 F2 F3 CV CP CL CI HSL HOK HTS HE HR
  have hc : loc < 0 ∨ (0 ≤ loc ∧ 4294967280 < loc) := by omega
  clear hl
  rcases hc with h | ⟨h, h2⟩
  all_goals
    go_enter Tryz.func23, Tryz.ntmps23
    go_wp2_with fail
    go_ret2
    exact ⟨.slice none 0 0, by rw [HE2.out]; rfl, by rw [HR2.out]; exact HNIL.out _, HB0.out⟩

set_option maxHeartbeats 12800000 in
set_option maxRecDepth 100000 in
/-- Sequence: the volume is invalid. -/
theorem seq_vol (d : Vs.D) (loc : Int) (w : World) (hT : Lib.Utf8Tabs 1 2 w) (hl : 0 ≤ loc ∧ loc ≤ 4294967280) (q1 : Vs.okVol d.vol = false) (s1 : d.vol.name.size ≤ 9223372036854775807) (s2 : d.vol.set.size ≤ 9223372036854775807) (s3 : d.table.size ≤ 9223372036854775807) :
    Calls Tryz.prog 23 #[.agg (Vs.dC d), .int .i64 loc] w fun e w' => ∃ v, e = .returned (.tuple #[v, .int .i64 (Vs.seqE d loc)]) ∧ w'.ownsRow w.heap.size 9 1 v (Vs.seqR d loc).length (Vs.strs (Vs.seqR d loc)) ∧ Below w.heap.size w w' := by
  have HE := Lib.hid (show Vs.seqE d loc = if (decide (0 ≤ loc) && decide (loc ≤ 4294967280)) = true then (if Vs.okD d = true then 0 else 1) else 2 from rfl)
  have HR := Lib.hid (show Vs.seqR d loc = if Vs.seqE d loc = 0 then Vs.seqL d loc.toNat else [] from rfl)
  have HNIL := Lib.hid (fun (W : World) => (show W.ownsRow w.heap.size 9 1 (.slice none 0 0) ([] : List ByteArray).length (Vs.strs []) from ⟨rfl, Or.inl ⟨rfl, rfl⟩⟩))
  have HSL := Lib.hid (show Vs.seqL d loc.toNat = [bs (Vs.blk 1 1 loc.toNat (Vs.primL d.vol)), bs (Vs.blk 5 1 (loc.toNat + 1) (Vs.partL d.part)), bs (Vs.blk 6 1 (loc.toNat + 2) (Vs.logL d)), bs (Vs.blk 7 1 (loc.toNat + 3) Vs.unalL), bs (Vs.blk 8 1 (loc.toNat + 4) (Vs.z 496))] ++ List.replicate 11 (bs (Vs.z 2048)) from rfl)
  have HOK := Lib.hid (show Vs.okD d = (Vs.okVol d.vol && (Vs.okPart d.part && Vs.okLog d)) from rfl)
  have HTS := Lib.hid (fun h : Vs.okD d = true => ((Vs.okLog_iff d).1 ((Vs.okD_iff d).1 h).2.2).2.2.2.1)
  have CV := Lib.hid (fun W (h : Lib.Utf8Tabs 1 2 W) => vVolume_any d.vol W h s2)
  have CP := Lib.hid (fun W => vPart_any d.part W)
  have CL := Lib.hid (fun W (h : Lib.Utf8Tabs 1 2 W) => vLogical_any d W h s1 s3)
  have CI := Lib.hid vImpl
  have F1 := Lib.hid (fun h => Vs.prim_fills d h s1 s2)
  have F2 := Lib.hid (fun h => Vs.part_fills d h)
  have F3 := Lib.hid (fun h => Vs.log_fills d h s1)
  have HB0 := Lib.hid (((Below.refl w.heap.size w).alloc (Nat.le_refl _) (.cells (Vs.dC d) 46)).alloc (by simp) (.cells #[.int .i64 loc] 3))
  have HN1 := Lib.hid (heap_alloc2_old w (.cells (Vs.dC d) 46) (.cells #[.int .i64 loc] 3))
  have HN2 := Lib.hid (heap_alloc2_new w (.cells (Vs.dC d) 46) (.cells #[.int .i64 loc] 3))
  have HTW := Lib.hid (fun W (h : Below w.heap.size w W) => Kit.tabs_below hT h)
  clear hT
  obtain ⟨⟨name, set, pub, prep, app, n, dd, tm⟩, ⟨pn, pa, ps, pc, pbs, pbc⟩, maps, table, fk, fl, fb, fp, ist, ic⟩ := d
  unfold Vs.volC at *
  unfold Vs.partC at *
  unfold Vs.dC at *
  simp only [] at *
  generalize Vs.seqE ⟨⟨name, set, pub, prep, app, n, dd, tm⟩, ⟨pn, pa, ps, pc, pbs, pbc⟩, maps, table, fk, fl, fb, fp, ist, ic⟩ loc = E at *
  generalize Vs.seqR ⟨⟨name, set, pub, prep, app, n, dd, tm⟩, ⟨pn, pa, ps, pc, pbs, pbc⟩, maps, table, fk, fl, fb, fp, ist, ic⟩ loc = RL at *
  generalize Vs.okD ⟨⟨name, set, pub, prep, app, n, dd, tm⟩, ⟨pn, pa, ps, pc, pbs, pbc⟩, maps, table, fk, fl, fb, fp, ist, ic⟩ = OK at *
  generalize Vs.okVol ⟨name, set, pub, prep, app, n, dd, tm⟩ = bV at *
  generalize Vs.okPart ⟨pn, pa, ps, pc, pbs, pbc⟩ = bP at *
  generalize Vs.okLog ⟨⟨name, set, pub, prep, app, n, dd, tm⟩, ⟨pn, pa, ps, pc, pbs, pbc⟩, maps, table, fk, fl, fb, fp, ist, ic⟩ = bL at *

  obtain ⟨hl0, hl1⟩ := hl
  have HE1 := Lib.hid (HE.out.trans (if_pos (by rw [decide_eq_true hl0, decide_eq_true hl1]; rfl)))
  clear HE
  subst q1
  have HE2 := Lib.hid (show E = 1 from HE1.out.trans (if_neg (by rw [HOK.out]; simp)))
  have HR2 := Lib.hid (show RL = [] from HR.out.trans (if_neg (by rw [HE2.out]; decide)))
  clear F1 F2 F3 CP CL CI HSL HOK HTS HE1 HR
  go_enter Tryz.func23, Tryz.ntmps23
  go_wp2_with fail
  with_reducible refine (CV.out _ (HTW.out _ HB0.out)).mono ?_
  rintro e w2 ⟨rfl, hb2⟩
  have HB2 := Lib.hid (HB0.out.trans (hb2.mono HB0.out.size))
  clear hb2
  go_wp2_with fail
  go_ret2
  exact ⟨.slice none 0 0, by rw [HE2.out]; rfl, by rw [HR2.out]; exact HNIL.out _, HB2.out⟩

set_option maxHeartbeats 12800000 in
set_option maxRecDepth 100000 in
/-- Sequence: the partition is invalid. -/
theorem seq_part (d : Vs.D) (loc : Int) (w : World) (hT : Lib.Utf8Tabs 1 2 w) (hl : 0 ≤ loc ∧ loc ≤ 4294967280) (q1 : Vs.okVol d.vol = true) (q2 : Vs.okPart d.part = false) (s1 : d.vol.name.size ≤ 9223372036854775807) (s2 : d.vol.set.size ≤ 9223372036854775807) (s3 : d.table.size ≤ 9223372036854775807) :
    Calls Tryz.prog 23 #[.agg (Vs.dC d), .int .i64 loc] w fun e w' => ∃ v, e = .returned (.tuple #[v, .int .i64 (Vs.seqE d loc)]) ∧ w'.ownsRow w.heap.size 9 1 v (Vs.seqR d loc).length (Vs.strs (Vs.seqR d loc)) ∧ Below w.heap.size w w' := by
  have HE := Lib.hid (show Vs.seqE d loc = if (decide (0 ≤ loc) && decide (loc ≤ 4294967280)) = true then (if Vs.okD d = true then 0 else 1) else 2 from rfl)
  have HR := Lib.hid (show Vs.seqR d loc = if Vs.seqE d loc = 0 then Vs.seqL d loc.toNat else [] from rfl)
  have HNIL := Lib.hid (fun (W : World) => (show W.ownsRow w.heap.size 9 1 (.slice none 0 0) ([] : List ByteArray).length (Vs.strs []) from ⟨rfl, Or.inl ⟨rfl, rfl⟩⟩))
  have HSL := Lib.hid (show Vs.seqL d loc.toNat = [bs (Vs.blk 1 1 loc.toNat (Vs.primL d.vol)), bs (Vs.blk 5 1 (loc.toNat + 1) (Vs.partL d.part)), bs (Vs.blk 6 1 (loc.toNat + 2) (Vs.logL d)), bs (Vs.blk 7 1 (loc.toNat + 3) Vs.unalL), bs (Vs.blk 8 1 (loc.toNat + 4) (Vs.z 496))] ++ List.replicate 11 (bs (Vs.z 2048)) from rfl)
  have HOK := Lib.hid (show Vs.okD d = (Vs.okVol d.vol && (Vs.okPart d.part && Vs.okLog d)) from rfl)
  have HTS := Lib.hid (fun h : Vs.okD d = true => ((Vs.okLog_iff d).1 ((Vs.okD_iff d).1 h).2.2).2.2.2.1)
  have CV := Lib.hid (fun W (h : Lib.Utf8Tabs 1 2 W) => vVolume_any d.vol W h s2)
  have CP := Lib.hid (fun W => vPart_any d.part W)
  have CL := Lib.hid (fun W (h : Lib.Utf8Tabs 1 2 W) => vLogical_any d W h s1 s3)
  have CI := Lib.hid vImpl
  have F1 := Lib.hid (fun h => Vs.prim_fills d h s1 s2)
  have F2 := Lib.hid (fun h => Vs.part_fills d h)
  have F3 := Lib.hid (fun h => Vs.log_fills d h s1)
  have HB0 := Lib.hid (((Below.refl w.heap.size w).alloc (Nat.le_refl _) (.cells (Vs.dC d) 46)).alloc (by simp) (.cells #[.int .i64 loc] 3))
  have HN1 := Lib.hid (heap_alloc2_old w (.cells (Vs.dC d) 46) (.cells #[.int .i64 loc] 3))
  have HN2 := Lib.hid (heap_alloc2_new w (.cells (Vs.dC d) 46) (.cells #[.int .i64 loc] 3))
  have HTW := Lib.hid (fun W (h : Below w.heap.size w W) => Kit.tabs_below hT h)
  clear hT
  obtain ⟨⟨name, set, pub, prep, app, n, dd, tm⟩, ⟨pn, pa, ps, pc, pbs, pbc⟩, maps, table, fk, fl, fb, fp, ist, ic⟩ := d
  unfold Vs.volC at *
  unfold Vs.partC at *
  unfold Vs.dC at *
  simp only [] at *
  generalize Vs.seqE ⟨⟨name, set, pub, prep, app, n, dd, tm⟩, ⟨pn, pa, ps, pc, pbs, pbc⟩, maps, table, fk, fl, fb, fp, ist, ic⟩ loc = E at *
  generalize Vs.seqR ⟨⟨name, set, pub, prep, app, n, dd, tm⟩, ⟨pn, pa, ps, pc, pbs, pbc⟩, maps, table, fk, fl, fb, fp, ist, ic⟩ loc = RL at *
  generalize Vs.okD ⟨⟨name, set, pub, prep, app, n, dd, tm⟩, ⟨pn, pa, ps, pc, pbs, pbc⟩, maps, table, fk, fl, fb, fp, ist, ic⟩ = OK at *
  generalize Vs.okVol ⟨name, set, pub, prep, app, n, dd, tm⟩ = bV at *
  generalize Vs.okPart ⟨pn, pa, ps, pc, pbs, pbc⟩ = bP at *
  generalize Vs.okLog ⟨⟨name, set, pub, prep, app, n, dd, tm⟩, ⟨pn, pa, ps, pc, pbs, pbc⟩, maps, table, fk, fl, fb, fp, ist, ic⟩ = bL at *

  obtain ⟨hl0, hl1⟩ := hl
  have HE1 := Lib.hid (HE.out.trans (if_pos (by rw [decide_eq_true hl0, decide_eq_true hl1]; rfl)))
  clear HE
  subst q1 q2
  have HE2 := Lib.hid (show E = 1 from HE1.out.trans (if_neg (by rw [HOK.out]; simp)))
  have HR2 := Lib.hid (show RL = [] from HR.out.trans (if_neg (by rw [HE2.out]; decide)))
  clear F1 F2 F3 CL CI HSL HOK HTS HE1 HR
  go_enter Tryz.func23, Tryz.ntmps23
  go_wp2_with fail
  with_reducible refine (CV.out _ (HTW.out _ HB0.out)).mono ?_
  rintro e w2 ⟨rfl, hb2⟩
  have HB2 := Lib.hid (HB0.out.trans (hb2.mono HB0.out.size))
  have HD2 := Lib.hid ((hb2.block w.heap.size (by simp; omega)).trans HN1.out)
  have HL2 := Lib.hid ((hb2.block (w.heap.size + 1) (by simp)).trans HN2.out)
  have hs2 := hb2.size
  simp only [World.size_alloc] at hs2
  clear hb2
  have c8 := cell_of_row _ _ 8 _ _ _ HD2.out
  have c9 := cell_of_row _ _ 9 _ _ _ HD2.out
  have c10 := cell_of_row _ _ 10 _ _ _ HD2.out
  have c11 := cell_of_row _ _ 11 _ _ _ HD2.out
  have c12 := cell_of_row _ _ 12 _ _ _ HD2.out
  have c13 := cell_of_row _ _ 13 _ _ _ HD2.out
  simp only [List.getElem?_toArray, List.getElem?_cons_zero, List.getElem?_cons_succ] at c8 c9 c10 c11 c12 c13
  go_wp2_with fail
  with_reducible refine (CP.out _).mono ?_
  rintro e w3 ⟨rfl, hb3⟩
  have HB3 := Lib.hid (HB2.out.trans (hb3.mono HB2.out.size))
  clear hb3
  clear c8 c9 c10 c11 c12 c13
  go_wp2_with fail
  go_ret2
  exact ⟨.slice none 0 0, by rw [HE2.out]; rfl, by rw [HR2.out]; exact HNIL.out _, HB3.out⟩

set_option maxHeartbeats 12800000 in
set_option maxRecDepth 100000 in
/-- Sequence: the logical volume is invalid. -/
theorem seq_log (d : Vs.D) (loc : Int) (w : World) (hT : Lib.Utf8Tabs 1 2 w) (hl : 0 ≤ loc ∧ loc ≤ 4294967280) (q1 : Vs.okVol d.vol = true) (q2 : Vs.okPart d.part = true) (q3 : Vs.okLog d = false) (s1 : d.vol.name.size ≤ 9223372036854775807) (s2 : d.vol.set.size ≤ 9223372036854775807) (s3 : d.table.size ≤ 9223372036854775807) :
    Calls Tryz.prog 23 #[.agg (Vs.dC d), .int .i64 loc] w fun e w' => ∃ v, e = .returned (.tuple #[v, .int .i64 (Vs.seqE d loc)]) ∧ w'.ownsRow w.heap.size 9 1 v (Vs.seqR d loc).length (Vs.strs (Vs.seqR d loc)) ∧ Below w.heap.size w w' := by
  have HE := Lib.hid (show Vs.seqE d loc = if (decide (0 ≤ loc) && decide (loc ≤ 4294967280)) = true then (if Vs.okD d = true then 0 else 1) else 2 from rfl)
  have HR := Lib.hid (show Vs.seqR d loc = if Vs.seqE d loc = 0 then Vs.seqL d loc.toNat else [] from rfl)
  have HNIL := Lib.hid (fun (W : World) => (show W.ownsRow w.heap.size 9 1 (.slice none 0 0) ([] : List ByteArray).length (Vs.strs []) from ⟨rfl, Or.inl ⟨rfl, rfl⟩⟩))
  have HSL := Lib.hid (show Vs.seqL d loc.toNat = [bs (Vs.blk 1 1 loc.toNat (Vs.primL d.vol)), bs (Vs.blk 5 1 (loc.toNat + 1) (Vs.partL d.part)), bs (Vs.blk 6 1 (loc.toNat + 2) (Vs.logL d)), bs (Vs.blk 7 1 (loc.toNat + 3) Vs.unalL), bs (Vs.blk 8 1 (loc.toNat + 4) (Vs.z 496))] ++ List.replicate 11 (bs (Vs.z 2048)) from rfl)
  have HOK := Lib.hid (show Vs.okD d = (Vs.okVol d.vol && (Vs.okPart d.part && Vs.okLog d)) from rfl)
  have HTS := Lib.hid (fun h : Vs.okD d = true => ((Vs.okLog_iff d).1 ((Vs.okD_iff d).1 h).2.2).2.2.2.1)
  have CV := Lib.hid (fun W (h : Lib.Utf8Tabs 1 2 W) => vVolume_any d.vol W h s2)
  have CP := Lib.hid (fun W => vPart_any d.part W)
  have CL := Lib.hid (fun W (h : Lib.Utf8Tabs 1 2 W) => vLogical_any d W h s1 s3)
  have CI := Lib.hid vImpl
  have F1 := Lib.hid (fun h => Vs.prim_fills d h s1 s2)
  have F2 := Lib.hid (fun h => Vs.part_fills d h)
  have F3 := Lib.hid (fun h => Vs.log_fills d h s1)
  have HB0 := Lib.hid (((Below.refl w.heap.size w).alloc (Nat.le_refl _) (.cells (Vs.dC d) 46)).alloc (by simp) (.cells #[.int .i64 loc] 3))
  have HN1 := Lib.hid (heap_alloc2_old w (.cells (Vs.dC d) 46) (.cells #[.int .i64 loc] 3))
  have HN2 := Lib.hid (heap_alloc2_new w (.cells (Vs.dC d) 46) (.cells #[.int .i64 loc] 3))
  have HTW := Lib.hid (fun W (h : Below w.heap.size w W) => Kit.tabs_below hT h)
  clear hT
  obtain ⟨⟨name, set, pub, prep, app, n, dd, tm⟩, ⟨pn, pa, ps, pc, pbs, pbc⟩, maps, table, fk, fl, fb, fp, ist, ic⟩ := d
  unfold Vs.volC at *
  unfold Vs.partC at *
  unfold Vs.dC at *
  simp only [] at *
  generalize Vs.seqE ⟨⟨name, set, pub, prep, app, n, dd, tm⟩, ⟨pn, pa, ps, pc, pbs, pbc⟩, maps, table, fk, fl, fb, fp, ist, ic⟩ loc = E at *
  generalize Vs.seqR ⟨⟨name, set, pub, prep, app, n, dd, tm⟩, ⟨pn, pa, ps, pc, pbs, pbc⟩, maps, table, fk, fl, fb, fp, ist, ic⟩ loc = RL at *
  generalize Vs.okD ⟨⟨name, set, pub, prep, app, n, dd, tm⟩, ⟨pn, pa, ps, pc, pbs, pbc⟩, maps, table, fk, fl, fb, fp, ist, ic⟩ = OK at *
  generalize Vs.okVol ⟨name, set, pub, prep, app, n, dd, tm⟩ = bV at *
  generalize Vs.okPart ⟨pn, pa, ps, pc, pbs, pbc⟩ = bP at *
  generalize Vs.okLog ⟨⟨name, set, pub, prep, app, n, dd, tm⟩, ⟨pn, pa, ps, pc, pbs, pbc⟩, maps, table, fk, fl, fb, fp, ist, ic⟩ = bL at *

  obtain ⟨hl0, hl1⟩ := hl
  have HE1 := Lib.hid (HE.out.trans (if_pos (by rw [decide_eq_true hl0, decide_eq_true hl1]; rfl)))
  clear HE
  subst q1 q2 q3
  have HE2 := Lib.hid (show E = 1 from HE1.out.trans (if_neg (by rw [HOK.out]; simp)))
  have HR2 := Lib.hid (show RL = [] from HR.out.trans (if_neg (by rw [HE2.out]; decide)))
  clear F1 F2 F3 CI HSL HOK HTS HE1 HR
  go_enter Tryz.func23, Tryz.ntmps23
  go_wp2_with fail
  with_reducible refine (CV.out _ (HTW.out _ HB0.out)).mono ?_
  rintro e w2 ⟨rfl, hb2⟩
  have HB2 := Lib.hid (HB0.out.trans (hb2.mono HB0.out.size))
  have HD2 := Lib.hid ((hb2.block w.heap.size (by simp; omega)).trans HN1.out)
  have HL2 := Lib.hid ((hb2.block (w.heap.size + 1) (by simp)).trans HN2.out)
  have hs2 := hb2.size
  simp only [World.size_alloc] at hs2
  clear hb2
  have c8 := cell_of_row _ _ 8 _ _ _ HD2.out
  have c9 := cell_of_row _ _ 9 _ _ _ HD2.out
  have c10 := cell_of_row _ _ 10 _ _ _ HD2.out
  have c11 := cell_of_row _ _ 11 _ _ _ HD2.out
  have c12 := cell_of_row _ _ 12 _ _ _ HD2.out
  have c13 := cell_of_row _ _ 13 _ _ _ HD2.out
  simp only [List.getElem?_toArray, List.getElem?_cons_zero, List.getElem?_cons_succ] at c8 c9 c10 c11 c12 c13
  go_wp2_with fail
  with_reducible refine (CP.out _).mono ?_
  rintro e w3 ⟨rfl, hb3⟩
  have HB3 := Lib.hid (HB2.out.trans (hb3.mono HB2.out.size))
  have HD3 := Lib.hid ((hb3.block w.heap.size (by omega)).trans HD2.out)
  have HL3 := Lib.hid ((hb3.block (w.heap.size + 1) (by omega)).trans HL2.out)
  have hs3 : w.heap.size + 1 + 1 ≤ w3.heap.size := by have := hb3.size; omega
  clear hb3
  clear c8 c9 c10 c11 c12 c13
  have HLD := Lib.hid (show (loadVar 46 ⟨w.heap.size, 0, none⟩).run Tryz.prog w3 = .ok (.agg #[.string name, .string set, .string pub, .string prep, .string app, .int .i64 n, .int .i64 dd, .int .i64 tm, .int .i64 pn, .int .i64 pa, .int .i64 ps, .int .i64 pc, .int .i64 pbs, .int .i64 pbc, .int .i64 maps, .string table, .int .i64 fk, .int .i64 fl, .int .i64 fb, .int .i64 fp, .int .i64 ist, .int .i64 ic]) w3 from load_row (P := Tryz.prog) (n := 22) 46 _ HD3.out Tryz.underlying46 rfl (by kernel_rfl) (show 0 + 22 ≤ 22 from Nat.le_refl _))
  go_wp2_with (refine wpList_load_at 46 _ rfl w.heap.size 0 rfl _ HLD.out (by rfl) ?_)
  with_reducible refine (CL.out _ (HTW.out _ HB3.out)).mono ?_
  rintro e w4 ⟨rfl, hb4⟩
  have HB4 := Lib.hid (HB3.out.trans (hb4.mono HB3.out.size))
  clear hb4
  clear HLD
  go_wp2_with fail
  go_ret2
  exact ⟨.slice none 0 0, by rw [HE2.out]; rfl, by rw [HR2.out]; exact HNIL.out _, HB4.out⟩

set_option maxHeartbeats 12800000 in
set_option maxRecDepth 100000 in
/-- Sequence: all is valid. -/
theorem seq_good (d : Vs.D) (loc : Int) (w : World) (hT : Lib.Utf8Tabs 1 2 w) (hl : 0 ≤ loc ∧ loc ≤ 4294967280) (q1 : Vs.okVol d.vol = true) (q2 : Vs.okPart d.part = true) (q3 : Vs.okLog d = true) (s1 : d.vol.name.size ≤ 9223372036854775807) (s2 : d.vol.set.size ≤ 9223372036854775807) (s3 : d.table.size ≤ 9223372036854775807) :
    Calls Tryz.prog 23 #[.agg (Vs.dC d), .int .i64 loc] w fun e w' => ∃ v, e = .returned (.tuple #[v, .int .i64 (Vs.seqE d loc)]) ∧ w'.ownsRow w.heap.size 9 1 v (Vs.seqR d loc).length (Vs.strs (Vs.seqR d loc)) ∧ Below w.heap.size w w' := by
  have HE := Lib.hid (show Vs.seqE d loc = if (decide (0 ≤ loc) && decide (loc ≤ 4294967280)) = true then (if Vs.okD d = true then 0 else 1) else 2 from rfl)
  have HR := Lib.hid (show Vs.seqR d loc = if Vs.seqE d loc = 0 then Vs.seqL d loc.toNat else [] from rfl)
  have HNIL := Lib.hid (fun (W : World) => (show W.ownsRow w.heap.size 9 1 (.slice none 0 0) ([] : List ByteArray).length (Vs.strs []) from ⟨rfl, Or.inl ⟨rfl, rfl⟩⟩))
  have HSL := Lib.hid (show Vs.seqL d loc.toNat = [bs (Vs.blk 1 1 loc.toNat (Vs.primL d.vol)), bs (Vs.blk 5 1 (loc.toNat + 1) (Vs.partL d.part)), bs (Vs.blk 6 1 (loc.toNat + 2) (Vs.logL d)), bs (Vs.blk 7 1 (loc.toNat + 3) Vs.unalL), bs (Vs.blk 8 1 (loc.toNat + 4) (Vs.z 496))] ++ List.replicate 11 (bs (Vs.z 2048)) from rfl)
  have HOK := Lib.hid (show Vs.okD d = (Vs.okVol d.vol && (Vs.okPart d.part && Vs.okLog d)) from rfl)
  have HTS := Lib.hid (fun h : Vs.okD d = true => ((Vs.okLog_iff d).1 ((Vs.okD_iff d).1 h).2.2).2.2.2.1)
  have CV := Lib.hid (fun W (h : Lib.Utf8Tabs 1 2 W) => vVolume_any d.vol W h s2)
  have CP := Lib.hid (fun W => vPart_any d.part W)
  have CL := Lib.hid (fun W (h : Lib.Utf8Tabs 1 2 W) => vLogical_any d W h s1 s3)
  have CI := Lib.hid vImpl
  have F1 := Lib.hid (fun h => Vs.prim_fills d h s1 s2)
  have F2 := Lib.hid (fun h => Vs.part_fills d h)
  have F3 := Lib.hid (fun h => Vs.log_fills d h s1)
  have HB0 := Lib.hid (((Below.refl w.heap.size w).alloc (Nat.le_refl _) (.cells (Vs.dC d) 46)).alloc (by simp) (.cells #[.int .i64 loc] 3))
  have HN1 := Lib.hid (heap_alloc2_old w (.cells (Vs.dC d) 46) (.cells #[.int .i64 loc] 3))
  have HN2 := Lib.hid (heap_alloc2_new w (.cells (Vs.dC d) 46) (.cells #[.int .i64 loc] 3))
  have HTW := Lib.hid (fun W (h : Below w.heap.size w W) => Kit.tabs_below hT h)
  clear hT
  obtain ⟨⟨name, set, pub, prep, app, n, dd, tm⟩, ⟨pn, pa, ps, pc, pbs, pbc⟩, maps, table, fk, fl, fb, fp, ist, ic⟩ := d
  unfold Vs.volC at *
  unfold Vs.partC at *
  unfold Vs.dC at *
  simp only [] at *
  generalize Vs.seqE ⟨⟨name, set, pub, prep, app, n, dd, tm⟩, ⟨pn, pa, ps, pc, pbs, pbc⟩, maps, table, fk, fl, fb, fp, ist, ic⟩ loc = E at *
  generalize Vs.seqR ⟨⟨name, set, pub, prep, app, n, dd, tm⟩, ⟨pn, pa, ps, pc, pbs, pbc⟩, maps, table, fk, fl, fb, fp, ist, ic⟩ loc = RL at *
  generalize Vs.okD ⟨⟨name, set, pub, prep, app, n, dd, tm⟩, ⟨pn, pa, ps, pc, pbs, pbc⟩, maps, table, fk, fl, fb, fp, ist, ic⟩ = OK at *
  generalize Vs.okVol ⟨name, set, pub, prep, app, n, dd, tm⟩ = bV at *
  generalize Vs.okPart ⟨pn, pa, ps, pc, pbs, pbc⟩ = bP at *
  generalize Vs.okLog ⟨⟨name, set, pub, prep, app, n, dd, tm⟩, ⟨pn, pa, ps, pc, pbs, pbc⟩, maps, table, fk, fl, fb, fp, ist, ic⟩ = bL at *

  obtain ⟨hl0, hl1⟩ := hl
  have HE1 := Lib.hid (HE.out.trans (if_pos (by rw [decide_eq_true hl0, decide_eq_true hl1]; rfl)))
  clear HE
  subst q1 q2 q3
  have HOK1 : OK = true := HOK.out
  subst HOK1
  have HE2 := Lib.hid (show E = 0 from HE1.out.trans (if_pos rfl))
  have HR2 := Lib.hid ((HR.out.trans (if_pos HE2.out)).trans HSL.out)
  have htab := HTS.out rfl
  obtain ⟨L1, hL1, hf1⟩ := F1.out rfl
  obtain ⟨L2, hL2, hf2⟩ := F2.out rfl
  obtain ⟨L3, hL3, hf3⟩ := F3.out rfl
  have G1 := Lib.hid hf1
  have G2 := Lib.hid hf2
  have G3 := Lib.hid hf3
  obtain ⟨LN, hLN⟩ : ∃ LN : Nat, loc = LN := ⟨loc.toNat, by omega⟩
  subst hLN
  rw [Int.toNat_natCast] at HR2
  have K1 := Lib.hid (show bs (Vs.blk 1 1 (LN + ([] : List ByteArray).length) (Vs.bodyL L1 496)) = bs (Vs.blk 1 1 LN (Vs.primL ⟨name, set, pub, prep, app, n, dd, tm⟩)) by rw [hL1]; rfl)
  have K2 := Lib.hid (fun b1 : ByteArray => show bs (Vs.blk 5 1 (LN + [b1].length) (Vs.bodyL L2 496)) = bs (Vs.blk 5 1 (LN + 1) (Vs.partL ⟨pn, pa, ps, pc, pbs, pbc⟩)) by rw [hL2]; rfl)
  have K3 := Lib.hid (fun b1 b2 : ByteArray => show bs (Vs.blk 6 1 (LN + [b1, b2].length) (Vs.bodyL L3 (424 + table.size))) = bs (Vs.blk 6 1 (LN + 2) (Vs.logL ⟨⟨name, set, pub, prep, app, n, dd, tm⟩, ⟨pn, pa, ps, pc, pbs, pbc⟩, maps, table, fk, fl, fb, fp, ist, ic⟩)) by rw [hL3]; rfl)
  have K4 := Lib.hid (fun b1 b2 b3 : ByteArray => show bs (Vs.blk 7 1 (LN + [b1, b2, b3].length) (Vs.bodyL (Vs.fillL [(16, Vs.n4 4)] []) 8)) = bs (Vs.blk 7 1 (LN + 3) Vs.unalL) by rw [Vs.body_unal]; rfl)
  have K5 := Lib.hid (fun b1 b2 b3 b4 : ByteArray => show bs (Vs.blk 8 1 (LN + [b1, b2, b3, b4].length) (Vs.bodyL (Vs.fillL [] []) 496)) = bs (Vs.blk 8 1 (LN + 4) (Vs.z 496)) by rw [Vs.body_term]; rfl)
  generalize bs (Vs.blk 1 1 LN (Vs.primL ⟨name, set, pub, prep, app, n, dd, tm⟩)) = B1 at *
  generalize bs (Vs.blk 5 1 (LN + 1) (Vs.partL ⟨pn, pa, ps, pc, pbs, pbc⟩)) = B2 at *
  generalize bs (Vs.blk 6 1 (LN + 2) (Vs.logL ⟨⟨name, set, pub, prep, app, n, dd, tm⟩, ⟨pn, pa, ps, pc, pbs, pbc⟩, maps, table, fk, fl, fb, fp, ist, ic⟩)) = B3 at *
  generalize bs (Vs.blk 7 1 (LN + 3) Vs.unalL) = B4 at *
  generalize bs (Vs.blk 8 1 (LN + 4) (Vs.z 496)) = B5 at *
  have hl2 : LN ≤ 4294967280 := by omega
  have HL2N := Lib.hid hl2
  have HTAB := Lib.hid htab
  have htabI : (table.size : Int) ≤ 1608 := by omega
  clear F1 F2 F3 hf1 hf2 hf3 hL1 hL2 hL3 HSL HOK HTS HE1 HR htab hl2
  go_enter Tryz.func23, Tryz.ntmps23
  go_wp2_with fail
  with_reducible refine (CV.out _ (HTW.out _ HB0.out)).mono ?_
  rintro e w2 ⟨rfl, hb2⟩
  have HB2 := Lib.hid (HB0.out.trans (hb2.mono HB0.out.size))
  have HD2 := Lib.hid ((hb2.block w.heap.size (by simp; omega)).trans HN1.out)
  have HL2 := Lib.hid ((hb2.block (w.heap.size + 1) (by simp)).trans HN2.out)
  have hs2 := hb2.size
  simp only [World.size_alloc] at hs2
  clear hb2
  have c8 := cell_of_row _ _ 8 _ _ _ HD2.out
  have c9 := cell_of_row _ _ 9 _ _ _ HD2.out
  have c10 := cell_of_row _ _ 10 _ _ _ HD2.out
  have c11 := cell_of_row _ _ 11 _ _ _ HD2.out
  have c12 := cell_of_row _ _ 12 _ _ _ HD2.out
  have c13 := cell_of_row _ _ 13 _ _ _ HD2.out
  simp only [List.getElem?_toArray, List.getElem?_cons_zero, List.getElem?_cons_succ] at c8 c9 c10 c11 c12 c13
  go_wp2_with fail
  with_reducible refine (CP.out _).mono ?_
  rintro e w3 ⟨rfl, hb3⟩
  have HB3 := Lib.hid (HB2.out.trans (hb3.mono HB2.out.size))
  have HD3 := Lib.hid ((hb3.block w.heap.size (by omega)).trans HD2.out)
  have HL3 := Lib.hid ((hb3.block (w.heap.size + 1) (by omega)).trans HL2.out)
  have hs3 : w.heap.size + 1 + 1 ≤ w3.heap.size := by have := hb3.size; omega
  clear hb3
  clear c8 c9 c10 c11 c12 c13
  have HLD := Lib.hid (show (loadVar 46 ⟨w.heap.size, 0, none⟩).run Tryz.prog w3 = .ok (.agg #[.string name, .string set, .string pub, .string prep, .string app, .int .i64 n, .int .i64 dd, .int .i64 tm, .int .i64 pn, .int .i64 pa, .int .i64 ps, .int .i64 pc, .int .i64 pbs, .int .i64 pbc, .int .i64 maps, .string table, .int .i64 fk, .int .i64 fl, .int .i64 fb, .int .i64 fp, .int .i64 ist, .int .i64 ic]) w3 from load_row (P := Tryz.prog) (n := 22) 46 _ HD3.out Tryz.underlying46 rfl (by kernel_rfl) (show 0 + 22 ≤ 22 from Nat.le_refl _))
  go_wp2_with (refine wpList_load_at 46 _ rfl w.heap.size 0 rfl _ HLD.out (by rfl) ?_)
  with_reducible refine (CL.out _ (HTW.out _ HB3.out)).mono ?_
  rintro e w4 ⟨rfl, hb4⟩
  have HB4 := Lib.hid (HB3.out.trans (hb4.mono HB3.out.size))
  have HD4 := Lib.hid ((hb4.block w.heap.size (by omega)).trans HD3.out)
  have HL4 := Lib.hid ((hb4.block (w.heap.size + 1) (by omega)).trans HL3.out)
  have hs4 : w.heap.size + 1 + 1 ≤ w4.heap.size := by have := hb4.size; omega
  clear hb4
  clear HLD
  go_wp2_with fail
  with_reducible refine (CI.out _).mono ?_
  rintro e w5 ⟨rfl, hb5⟩
  have HB5 := Lib.hid (HB4.out.trans (hb5.mono HB4.out.size))
  have HD5 := Lib.hid ((hb5.block w.heap.size (by omega)).trans HD4.out)
  have HL5 := Lib.hid ((hb5.block (w.heap.size + 1) (by omega)).trans HL4.out)
  have hs5 : w.heap.size + 1 + 1 ≤ w5.heap.size := by have := hb5.size; omega
  clear hb5 hs4 hs3 hs2
  go_upto_region 8 with fail
  have HD8 := Lib.hid ((((Below.refl w5.heap.size w5).alloc (Nat.le_refl _) (.cells #[.string (bs Vs.implL)] 9)).alloc (by simp) (.cells #[.slice none 0 0] 31)).block w.heap.size (by omega) |>.trans HD5.out)
  have HL8 := Lib.hid ((((Below.refl w5.heap.size w5).alloc (Nat.le_refl _) (.cells #[.string (bs Vs.implL)] 9)).alloc (by simp) (.cells #[.slice none 0 0] 31)).block (w.heap.size + 1) (by omega) |>.trans HL5.out)
  have HI8 := Lib.hid (heap_alloc2_old w5 (.cells #[.string (bs Vs.implL)] 9) (.cells #[.slice none 0 0] 31))
  have HO8 := Lib.hid (heap_alloc2_new w5 (.cells #[.string (bs Vs.implL)] 9) (.cells #[.slice none 0 0] 31))
  have HB8 := Lib.hid ((HB5.out.alloc HB5.out.size (.cells #[.string (bs Vs.implL)] 9)).alloc (Nat.le_trans HB5.out.size (by simp)) (.cells #[.slice none 0 0] 31))
  have hs8 : w5.heap.size + 2 = ((w5.alloc (.cells #[.string (bs Vs.implL)] 9)).alloc (.cells #[.slice none 0 0] 31)).heap.size := by simp
  generalize (w5.alloc (.cells #[.string (bs Vs.implL)] 9)).alloc (.cells #[.slice none 0 0] 31) = W8 at *
  generalize w5.heap.size = ib at *
  have hne0 : w.heap.size ≠ W8.heap.size := by omega
  have hne1 : w.heap.size ≠ W8.heap.size + 1 := by omega
  have hlt0 : w.heap.size < W8.heap.size := by omega
  have hlt1 : w.heap.size < W8.heap.size + 1 := by omega
  have hlt2 : (⟨w.heap.size, 0, none⟩ : Addr).block < W8.heap.size := by simpa using hlt0
  have c0 := cell_of_row _ _ 0 _ _ _ HD8.out
  have c1 := cell_of_row _ _ 1 _ _ _ HD8.out
  have c2 := cell_of_row _ _ 2 _ _ _ HD8.out
  have c3 := cell_of_row _ _ 3 _ _ _ HD8.out
  have c4 := cell_of_row _ _ 4 _ _ _ HD8.out
  have c5 := cell_of_row _ _ 5 _ _ _ HD8.out
  have c6 := cell_of_row _ _ 6 _ _ _ HD8.out
  have c7 := cell_of_row _ _ 7 _ _ _ HD8.out
  have c8 := cell_of_row _ _ 8 _ _ _ HD8.out
  have c9 := cell_of_row _ _ 9 _ _ _ HD8.out
  have c10 := cell_of_row _ _ 10 _ _ _ HD8.out
  have c11 := cell_of_row _ _ 11 _ _ _ HD8.out
  have c12 := cell_of_row _ _ 12 _ _ _ HD8.out
  have c13 := cell_of_row _ _ 13 _ _ _ HD8.out
  simp only [List.getElem?_toArray, List.getElem?_cons_zero, List.getElem?_cons_succ] at c0 c1 c2 c3 c4 c5 c6 c7 c8 c9 c10 c11 c12 c13
  go_cut [9, 10] (fun s9 s10 wx => ∃ vb pb : Nat, s9 = .pointer (some ⟨vb, 0, none⟩) ∧ s10 = .pointer (some ⟨pb, 0, none⟩) ∧ Vs.SeqB w wx #[.string name, .string set, .string pub, .string prep, .string app, .int .i64 n, .int .i64 dd, .int .i64 tm, .int .i64 pn, .int .i64 pa, .int .i64 ps, .int .i64 pc, .int .i64 pbs, .int .i64 pbc, .int .i64 maps, .string table, .int .i64 fk, .int .i64 fl, .int .i64 fb, .int .i64 fp, .int .i64 ist, .int .i64 ic] #[.string name, .string set, .string pub, .string prep, .string app, .int .i64 n, .int .i64 dd, .int .i64 tm] #[.int .i64 pn, .int .i64 pa, .int .i64 ps, .int .i64 pc, .int .i64 pbs, .int .i64 pbc] LN ib (ib + 1) vb pb)
  case first =>
    go_region
    all_goals
      go_wp2_with fail
      go_meet
    · have B8 := (((Below.refl W8.heap.size W8).alloc (Nat.le_refl _) (.cells #[.string name, .string set, .string pub, .string prep, .string app, .int .i64 n, .int .i64 dd, .int .i64 tm] 38)).alloc (by simp) (.cells #[.int .i64 pn, .int .i64 pa, .int .i64 ps, .int .i64 pc, .int .i64 pbs, .int .i64 pbc] 40)).drew
      exact ⟨_, _, rfl, rfl, ⟨HB8.out.trans (B8.mono HB8.out.size), (B8.block _ (by omega)).trans HD8.out, (B8.block _ (by omega)).trans HL8.out, (B8.block _ (by omega)).trans HI8.out, (B8.block _ (by omega)).trans HO8.out, heap_alloc2_old _ _ _, heap_alloc2_new _ _ _, by omega, by omega, by omega, by omega⟩⟩
    · have B8 := (((Below.refl W8.heap.size W8).alloc (Nat.le_refl _) (.cells #[.int .i64 pn, .int .i64 pa, .int .i64 ps, .int .i64 pc, .int .i64 pbs, .int .i64 pbc] 40)).alloc (by simp) (.cells #[.string name, .string set, .string pub, .string prep, .string app, .int .i64 n, .int .i64 dd, .int .i64 tm] 38)).drew
      exact ⟨_, _, rfl, rfl, ⟨HB8.out.trans (B8.mono HB8.out.size), (B8.block _ (by omega)).trans HD8.out, (B8.block _ (by omega)).trans HL8.out, (B8.block _ (by omega)).trans HI8.out, (B8.block _ (by omega)).trans HO8.out, heap_alloc2_new _ _ _, heap_alloc2_old _ _ _, by omega, by omega, by omega, by omega⟩⟩
  case rest =>
    obtain ⟨vb, pb, rfl, rfl, hst⟩ := hcut
    have HST := Lib.hid hst
    have hbo : w.heap.size ≤ ib + 1 := by omega
    have HQ0 := Lib.hid (Vs.Sq.start (b0 := w.heap.size) hst.ho hbo)
    clear hst CV CP CL CI HB0 HN1 HN2 HB2 HD2 HL2 HB3 HD3 HL3 HB4 HD4 HL4 HB5 HD5 HL5 HD8 HL8 HI8 HO8 HB8 hs5 hs8 hne0 hne1 hlt0 hlt1 hlt2 c0 c1 c2 c3 c4 c5 c6 c7 c8 c9 c10 c11 c12 c13 hbo
    go_wp2_with fail
    obtain ⟨r1, r2, r3, r4, r5, r6⟩ := HST.out.rows HQ0.out
    refine (addSeq_any wc _ w.heap.size (ib + 1) (w.heap.size + 1) LN [] HQ0.out r2 HL2N.out (by decide) 1 496 1 496 rfl rfl (by decide) _ _ L1 (G1.out _ _ _ r4 r3 (HTW.out _ r6)) (by decide)).mono ?_
    rintro e wd1 ⟨rfl, hq⟩
    have HQ1 := Lib.hid (show Vs.Sq wc w.heap.size (ib + 1) [B1] wd1 from Eq.mp (congrArg (fun b => Vs.Sq wc w.heap.size (ib + 1) [b] wd1) K1.out) hq)
    clear hq r1 r2 r3 r4 r5 r6
    go_wp2_with fail
    obtain ⟨r1, r2, r3, r4, r5, r6⟩ := HST.out.rows HQ1.out
    refine (addSeq_any wc _ w.heap.size (ib + 1) (w.heap.size + 1) LN [B1] HQ1.out r2 HL2N.out (by simp) 5 496 5 496 rfl rfl (by decide) _ _ L2 (G2.out _ _ _ r5 r3) (by decide)).mono ?_
    rintro e wd2 ⟨rfl, hq⟩
    have HQ2 := Lib.hid (show Vs.Sq wc w.heap.size (ib + 1) [B1, B2] wd2 from Eq.mp (congrArg (fun b => Vs.Sq wc w.heap.size (ib + 1) [B1, b] wd2) (K2.out B1)) hq)
    clear hq r1 r2 r3 r4 r5 r6
    obtain ⟨r1, r2, r3, r4, r5, r6⟩ := HST.out.rows HQ2.out
    have c15 := cell_of_row _ _ 15 _ _ _ r1
    simp only [List.getElem?_toArray, List.getElem?_cons_zero, List.getElem?_cons_succ] at c15
    have R1 := Lib.hid r1
    have R2 := Lib.hid r2
    have R3 := Lib.hid r3
    have R4 := Lib.hid r4
    have R6 := Lib.hid r6
    clear r1 r2 r3 r4 r5 r6
    go_wp2_with fail
    refine (addSeq_any wc _ w.heap.size (ib + 1) (w.heap.size + 1) LN [B1, B2] HQ2.out R2.out HL2N.out (by simp) 6 (424 + table.size) 6 (424 + (table.size : Int)) rfl (by omega) (by decide) _ _ L3 (G3.out _ _ _ _ R4.out R1.out R3.out (HTW.out _ R6.out)) (by have := HTAB.out; omega)).mono ?_
    rintro e wd3 ⟨rfl, hq⟩
    have HQ3 := Lib.hid (show Vs.Sq wc w.heap.size (ib + 1) [B1, B2, B3] wd3 from Eq.mp (congrArg (fun b => Vs.Sq wc w.heap.size (ib + 1) [B1, B2, b] wd3) (K3.out B1 B2)) hq)
    clear hq c15
    go_wp2_with fail
    obtain ⟨r1, r2, r3, r4, r5, r6⟩ := HST.out.rows HQ3.out
    refine (addSeq_any wc _ w.heap.size (ib + 1) (w.heap.size + 1) LN [B1, B2, B3] HQ3.out r2 HL2N.out (by simp) 7 8 7 8 rfl rfl (by decide) _ _ _ (fillUnal_any _) (by decide)).mono ?_
    rintro e wd4 ⟨rfl, hq⟩
    have HQ4 := Lib.hid (show Vs.Sq wc w.heap.size (ib + 1) [B1, B2, B3, B4] wd4 from Eq.mp (congrArg (fun b => Vs.Sq wc w.heap.size (ib + 1) [B1, B2, B3, b] wd4) (K4.out B1 B2 B3)) hq)
    clear hq r1 r2 r3 r4 r5 r6
    go_wp2_with fail
    obtain ⟨r1, r2, r3, r4, r5, r6⟩ := HST.out.rows HQ4.out
    refine (addSeq_any wc _ w.heap.size (ib + 1) (w.heap.size + 1) LN [B1, B2, B3, B4] HQ4.out r2 HL2N.out (by simp) 8 496 8 496 rfl rfl (by decide) _ _ _ (fillTerm_any _) (by decide)).mono ?_
    rintro e wd5 ⟨rfl, hq⟩
    have HQ5 := Lib.hid (show Vs.Sq wc w.heap.size (ib + 1) [B1, B2, B3, B4, B5] wd5 from Eq.mp (congrArg (fun b => Vs.Sq wc w.heap.size (ib + 1) [B1, B2, B3, B4, b] wd5) (K5.out B1 B2 B3 B4)) hq)
    clear hq r1 r2 r3 r4 r5 r6
    have HBW := Lib.hid HST.out.bel
    clear HST HQ0 HQ1 HQ2 HQ3 HQ4 R1 R2 R3 R4 R6 K1 K2 K3 K4 K5 G1 G2 G3
    go_wp2_with fail
    go_loopw [] (fun wr => ∃ k : Nat, k ≤ 11 ∧ Vs.Sq wc w.heap.size (ib + 1) ([B1, B2, B3, B4, B5] ++ List.replicate k (bs (Vs.z 2048))) wr) (fun wr => 16 - Vs.boxLen wr (ib + 1))
    case atStart => exact ⟨0, by omega, HQ5.out⟩
    case round =>
      obtain ⟨k, hk, hq⟩ := hrel
      have hlen : ([B1, B2, B3, B4, B5] ++ List.replicate k (bs (Vs.z 2048))).length = 5 + k := by simp; omega
      have HL := Lib.hid (show [B1, B2, B3, B4, B5] ++ List.replicate (k + 1) (bs (Vs.z 2048)) = ([B1, B2, B3, B4, B5] ++ List.replicate k (bs (Vs.z 2048))) ++ [bs (Vs.z 2048)] by rw [List.append_assoc, ← List.replicate_succ'])
      have HF := Lib.hid (fun h : k = 11 => show RL = [B1, B2, B3, B4, B5] ++ List.replicate k (bs (Vs.z 2048)) by rw [HR2.out, h])
      generalize [B1, B2, B3, B4, B5] ++ List.replicate k (bs (Vs.z 2048)) = l at *
      have HQ := Lib.hid hq
      obtain ⟨v, hv, ho⟩ := hq.box
      obtain ⟨A, c, rfl⟩ := own_shape ho
      have cO := cell_of_row _ _ 0 _ _ _ hv
      have hfz := frozen_of_row _ _ 0 _ _ hv
      simp only [List.getElem?_toArray, List.getElem?_cons_zero] at cO
      have hmeas : Vs.boxLen wr (ib + 1) = 5 + k := by unfold Vs.boxLen; rw [cO]; exact hlen
      rw [hlen] at cO
      have HO := Lib.hid ho
      have HLEN := Lib.hid hlen
      have HOM := Lib.hid (fun (W : World) (hb : Below wr.heap.size wr W) => (show W.ownsRow wc.heap.size 9 1 (.slice A (5 + k) c) (5 + k) (Vs.strs l) by have h := Kit.own_below ho hb; rw [hlen] at h; exact h))
      have HVL := Lib.hid (Array.getElem?_eq_some_iff.1 hv).1
      have HOB := Lib.hid hq.hob
      clear hq hv ho hlen
      by_cases hlt : k < 11
      · have d1 : decide (((5 + k : Nat) : Int) < 16) = true := decide_eq_true (by omega)
        have d2 : ((5 + k : Nat) : Int) < 16 := by omega
        have HM := Lib.hid (show 5 + (k + 1) = 5 + k + 1 by omega)
        have hm16 : 5 + k ≤ 15 := by omega
        generalize 5 + k = m at *
        have HWR := Lib.hid (show Below wr.heap.size wr wr.drew from (Below.refl _ _).drew)
        have CZ := Lib.hid zero_any
        have hsz1 : wc.heap.size ≤ wr.heap.size := HQ.out.size
        have HSZ := Lib.hid hsz1
        have hibw : ib + 1 < wr.heap.size := HVL.out
        have HCB := Lib.hid (fun (W : World) (hb : Below wr.heap.size wr W) => (hb.cell (p := ⟨ib + 1, 0, none⟩) hibw).trans cO)
        have HFB := Lib.hid (fun (W : World) (hb : Below wr.heap.size wr W) => (hb.frozen (p := ⟨ib + 1, 0, none⟩) hibw).trans hfz)
        clear hfz hibw
        go_wp2_with fail
        clear cO
        have cO1 := HCB.out _ HWR.out
        go_region_law (first | ((go_at_call 57; refine (CZ.out _).mono ?_; rintro e wn ⟨rfl, hbn⟩; have HBN := Lib.hid (HWR.out.trans hbn); have cn := HCB.out _ HBN.out; have hln : ib + 1 < wn.heap.size := Nat.lt_of_lt_of_le HVL.out HBN.out.size; clear hbn)) | ((go_simp; go_at_call 57; refine (CZ.out _).mono ?_; rintro e wn ⟨rfl, hbn⟩; have HBN := Lib.hid (HWR.out.trans hbn); have cn := HCB.out _ HBN.out; have hln : ib + 1 < wn.heap.size := Nat.lt_of_lt_of_le HVL.out HBN.out.size; clear hbn)) | ((refine Kit.step_app strInfo (by rfl) (by decide) (by rfl) (.tmp 60) (.tmp 62) 31 (by rfl) Tryz.underlying31 wc.heap.size _ _ _ (by rfl) (by exact HOM.out _ HBN.out) [.string (bs (Vs.z 2048))] 1 1 (by rfl) (by rfl) (Kit.one1 (by rfl)) (by rfl) (by omega) (by exact Nat.le_trans HSZ.out HBN.out.size) ?_; intro v' w' ho' hb'; obtain ⟨g2, cap2, rfl⟩ := Vs.own_head ho'; have HO' := Lib.hid ho'; have HB' := Lib.hid hb'; have hc' := (HB'.out.cell (p := ⟨ib + 1, 0, none⟩) HOB.out).trans cn; have hf' := (HB'.out.frozen (p := ⟨ib + 1, 0, none⟩) HOB.out).trans (HFB.out _ HBN.out); clear ho' hb')))
        all_goals go_wp2_with fail
        all_goals go_roundw
        all_goals first
          | (refine ⟨k + 1, by omega, ?_⟩
             rw [HL.out]
             have h := (HQ.out.below HBN.out).set (g := g2) (c := cap2) (s := bs (Vs.z 2048)) (by rw [HLEN.out]; exact HO'.out) HB'.out
             rw [HLEN.out] at h
             exact h)
          | (rw [hmeas, show Vs.boxLen (w'.setCell ⟨ib + 1, 0, none⟩ (.slice (some ⟨g2, 0, none⟩) (m + 1) cap2)) (ib + 1) = m + 1 by unfold Vs.boxLen; rw [World.cell?_setCell_same _ _ _ hc']]
             omega)
      · obtain rfl : k = 11 := by omega
        have HFF := Lib.hid (HF.out rfl)
        clear hlt
        go_wp2_with fail
        go_ret2
        rw [HE2.out, HFF.out]
        have hb := HBW.out
        have h := HO.out
        rw [show Value.slice A l.length c = .slice A 16 c by rw [HLEN.out]] at h
        exact ⟨_, rfl, Kit.own_base h (hb.size), hb.trans HQ.out.bel⟩

/-- Sequence. -/
theorem seq_any (d : Vs.D) (loc : Int) (w : World) (hT : Lib.Utf8Tabs 1 2 w) (s1 : d.vol.name.size ≤ 9223372036854775807) (s2 : d.vol.set.size ≤ 9223372036854775807) (s3 : d.table.size ≤ 9223372036854775807) :
    Calls Tryz.prog 23 #[.agg (Vs.dC d), .int .i64 loc] w fun e w' => ∃ v, e = .returned (.tuple #[v, .int .i64 (Vs.seqE d loc)]) ∧ w'.ownsRow w.heap.size 9 1 v (Vs.seqR d loc).length (Vs.strs (Vs.seqR d loc)) ∧ Below w.heap.size w w' := by
  by_cases hl : 0 ≤ loc ∧ loc ≤ 4294967280
  case neg => exact seq_range d loc w hT hl s1 s2 s3
  cases q1 : Vs.okVol d.vol with
  | false => exact seq_vol d loc w hT hl q1 s1 s2 s3
  | true =>
  cases q2 : Vs.okPart d.part with
  | false => exact seq_part d loc w hT hl q1 q2 s1 s2 s3
  | true =>
  cases q3 : Vs.okLog d with
  | false => exact seq_log d loc w hT hl q1 q2 q3 s1 s2 s3
  | true => exact seq_good d loc w hT hl q1 q2 q3 s1 s2 s3
end Go.Proofs.YthkppbimkjmbnaaGreatDoor
