/-
  The walk through finalize.Check, of any kind, disc and writes (what packetwriter.Valid says is taken as told).
-/
import Derived.Test.YtiekfipjbmdkpaaGreatDoorYc
namespace Go.Proofs.YtiekfipjbmdkpaaGreatDoor
open Go.RowKit Go.Shelf Go.Maps
attribute [local go_sem] Oper.semAt_some
namespace Fi
/-- Check's own variables: the kind, the disc, the two results. -/
structure C4 (w : World) (kind : Int) (v sv : Value) (W : World) : Prop where
  bel : Below w.heap.size w W
  size : w.heap.size + 4 ≤ W.heap.size
  k : W.heap[w.heap.size]? = some (.cells #[.int .i64 kind] 3 (0, 0))
  d : W.heap[w.heap.size + 1]? = some (.cells #[v, sv] 26 (0, 0))
  r6 : W.heap[w.heap.size + 1 + 1]? = some (.cells #[.int .i64 0] 3 (0, 0))
  r7 : W.heap[w.heap.size + 1 + 1 + 1]? = some (.cells #[.int .i64 0] 33 (0, 0))
theorem C4.later {w : World} {kind : Int} {v sv : Value} {W W' : World} (h : C4 w kind v sv W) {B : Nat} (hb : Below B W W') (hB : w.heap.size + 4 ≤ B) : C4 w kind v sv W' :=
  ⟨h.bel.trans (hb.mono (by omega)), Nat.le_trans h.size hb.size, (hb.block _ (by omega)).trans h.k, (hb.block _ (by omega)).trans h.d, (hb.block _ (by omega)).trans h.r6, (hb.block _ (by omega)).trans h.r7⟩
/-- The world of Check's variables. -/
abbrev w4 (w : World) (kind : Int) (v sv : Value) : World := (((w.alloc (.cells #[.int .i64 kind] 3)).alloc (.cells #[v, sv] 26)).alloc (.cells #[.int .i64 0] 3)).alloc (.cells #[.int .i64 0] 33)
theorem C4.start (w : World) (kind : Int) (v sv : Value) : C4 w kind v sv (w4 w kind v sv) := by
  have s1 : (w.alloc (.cells #[.int .i64 kind] 3)).heap.size = w.heap.size + 1 := by simp
  have s2 : ((w.alloc (.cells #[.int .i64 kind] 3)).alloc (.cells #[v, sv] 26)).heap.size = w.heap.size + 1 + 1 := by simp
  have s3 : (((w.alloc (.cells #[.int .i64 kind] 3)).alloc (.cells #[v, sv] 26)).alloc (.cells #[.int .i64 0] 3)).heap.size = w.heap.size + 1 + 1 + 1 := by simp
  refine ⟨((((Below.refl _ w).alloc (Nat.le_refl _) _).alloc (by omega) _).alloc (by omega) _).alloc (by omega) _, by simp [w4], ?_, ?_, ?_, ?_⟩
  · have h := World.alloc_heap_new w (.cells #[.int .i64 kind] 3)
    exact (Below.heap_alloc _ _ _ (by omega)).trans ((Below.heap_alloc _ _ _ (by omega)).trans ((Below.heap_alloc _ _ _ (by omega)).trans h))
  · have h := World.alloc_heap_new (w.alloc (.cells #[.int .i64 kind] 3)) (.cells #[v, sv] 26)
    rw [s1] at h
    exact (Below.heap_alloc _ _ _ (by omega)).trans ((Below.heap_alloc _ _ _ (by omega)).trans h)
  · have h := World.alloc_heap_new ((w.alloc (.cells #[.int .i64 kind] 3)).alloc (.cells #[v, sv] 26)) (.cells #[.int .i64 0] 3)
    rw [s2] at h
    exact (Below.heap_alloc _ _ _ (by omega)).trans h
  · have h := World.alloc_heap_new (((w.alloc (.cells #[.int .i64 kind] 3)).alloc (.cells #[v, sv] 26)).alloc (.cells #[.int .i64 0] 3)) (.cells #[.int .i64 0] 33)
    rw [s3] at h
    exact h
/-- The two results, read. -/
theorem chk_results (tmps : Array Value) (W : World) (g h : Nat) (x y : Value) (hx : W.cell? ⟨g, 0, none⟩ = some x) (hy : W.cell? ⟨h, 0, none⟩ = some y) (h6 : tmps.getD 6 undef = .pointer (some ⟨g, 0, none⟩)) (h7 : tmps.getD 7 undef = .pointer (some ⟨h, 0, none⟩)) :
    (results Tryz.f10 tmps).run Tryz.prog W = .ok (.tuple #[x, y]) W := by
  have a3 : ∀ w : World, (isAgg 3).run Tryz.prog w = .ok false w := fun _ => by kernel_rfl
  have a33 : ∀ w : World, (isAgg 33).run Tryz.prog w = .ok false w := fun _ => by kernel_rfl
  have v1 : (loadVar 3 ⟨g, 0, none⟩).run Tryz.prog W = .ok x W := by simp [loadVar, a3, hx]
  have v2 : (loadVar 33 ⟨h, 0, none⟩).run Tryz.prog W = .ok y W := by simp [loadVar, a33, hy]
  rw [Array.getD_eq_getD_getElem?] at h6 h7
  simp [results, h6, h7, v1, v2, asAddr]
/-- The two results, laid. -/
theorem C4.laid {w : World} {kind : Int} {v sv : Value} {W : World} (h : C4 w kind v sv W) (x y : Int) :
    Below w.heap.size w ((W.setCell ⟨w.heap.size + 1 + 1, 0, none⟩ (.int .i64 x)).setCell ⟨w.heap.size + 1 + 1 + 1, 0, none⟩ (.int .i64 y)) ∧
    ((W.setCell ⟨w.heap.size + 1 + 1, 0, none⟩ (.int .i64 x)).setCell ⟨w.heap.size + 1 + 1 + 1, 0, none⟩ (.int .i64 y)).cell? ⟨w.heap.size + 1 + 1, 0, none⟩ = some (.int .i64 x) ∧
    ((W.setCell ⟨w.heap.size + 1 + 1, 0, none⟩ (.int .i64 x)).setCell ⟨w.heap.size + 1 + 1 + 1, 0, none⟩ (.int .i64 y)).cell? ⟨w.heap.size + 1 + 1 + 1, 0, none⟩ = some (.int .i64 y) := by
  have b6 : Boxed W (w.heap.size + 1 + 1) 3 (.int .i64 0) := h.r6
  have b7 : Boxed W (w.heap.size + 1 + 1 + 1) 33 (.int .i64 0) := h.r7
  have c6 := b6.set (.int .i64 x)
  have c7 := (b7.other (B' := w.heap.size + 1 + 1) (by omega) (.int .i64 x)).set (.int .i64 y)
  have d6 := c6.other (B' := w.heap.size + 1 + 1 + 1) (by omega) (.int .i64 y)
  exact ⟨(h.bel.setCell (p := ⟨w.heap.size + 1 + 1, 0, none⟩) (by simp only []; omega) _).setCell (p := ⟨w.heap.size + 1 + 1 + 1, 0, none⟩) (by simp only []; omega) _, d6.cell, c7.cell⟩
/-- Between Check's rounds: its variables, the set of the addresses that are done. -/
structure ChI (kind : Int) (b : List ByteArray) (L : List (Int × Int)) (v8 : Value) (w5 : World) (pre : List AB) (W : World) : Prop where
  bel : Below w5.heap.size w5 W
  size : w5.heap.size + 4 ≤ W.heap.size
  b8 : W.heap[w5.heap.size + 1]? = some (.cells #[v8] 45 (0, 0))
  b9 : W.heap[w5.heap.size + 1 + 1]? = some (.cells #[.map (some w5.heap.size)] 85 (0, 0))
  on : ∀ rest, go kind b L [] (pre.map (·.1) ++ rest) = go kind b L (pre.map (·.1)) rest
  map : ∃ n D, n ≤ pre.length ∧ BM W w5.heap.size n D ∧ BIs D (pre.map (·.1))
theorem ChI.own (kind : Int) (b : List ByteArray) (L : List (Int × Int)) (v8 : Value) (w5 : World) : OwnFrom (w5.heap.size + 4) (ChI kind b L v8 w5) := fun pre W W' row h hg hr => by
  have hne : ∀ k, k < w5.heap.size + 4 → some k ≠ row := fun k hk e => by have := (hr k e.symm).1; omega
  obtain ⟨n, D, hn, hM, hI⟩ := h.map
  exact ⟨h.bel.grown hg h.bel.size (fun k e => by have := (hr k e).1; omega), Nat.le_trans h.size hg.size, (hg.block _ (Array.getElem?_eq_some_iff.1 h.b8).1 (hne _ (by omega))).trans h.b8, (hg.block _ (Array.getElem?_eq_some_iff.1 h.b9).1 (hne _ (by omega))).trans h.b9, h.on, n, D, hn, hM.kept hg (hne _ (by omega)), hI⟩
theorem BM.notCells {W : World} {b n : Nat} {D : DataW Value} (h : BM W b n D) {cs : Array Value} {T : TypeId} : W.heap[b]? ≠ some (.cells cs T (0, 0)) := by
  obtain ⟨es, clock, hb, _⟩ := h
  rw [hb]
  intro h
  cases h
theorem ChI.put {kind : Int} {b : List ByteArray} {L : List (Int × Int)} {v8 : Value} {w5 W W2 : World} {pre : List AB} {x : AB} {n : Nat} {D D' : DataW Value} (h : ChI kind b L v8 w5 pre W) (hM : BM W w5.heap.size n D) (hg : W.grownBy W2 (some w5.heap.size)) (hn : n ≤ pre.length) (hM2 : BM W2 w5.heap.size (n + 1) D') (hI2 : BIs D' (pre.map (·.1) ++ [x.1]))
    (hs : step kind b L (pre.map (·.1)) x.1 = none) : KeepsFrom (w5.heap.size + 4) W W2 ∧ Kp w5.heap.size W W2 ∧ ChI kind b L v8 w5 (pre ++ [x]) W2 := by
  have hz := h.size
  have hb : Below w5.heap.size W W2 := (Below.refl _ W).grown hg (by omega) (fun k e => by cases e; exact Nat.le_refl _)
  have keep : ∀ k o, k ≠ w5.heap.size → W.heap[k]? = some o → W2.heap[k]? = some o := fun k o hk ho => (hg.block k (Array.getElem?_eq_some_iff.1 ho).1 (fun e => hk (Option.some.inj e))).trans ho
  refine ⟨⟨hg.size, fun k o hk ho _ => keep k o (by omega) ho⟩, ⟨hb, hg.size, fun k cs T _ ho => keep k _ (fun e => by subst e; exact hM.notCells ho) ho⟩, h.bel.trans hb, Nat.le_trans hz hg.size, keep _ _ (by omega) h.b8, keep _ _ (by omega) h.b9, fun rest => ?_, n + 1, D', by simp; omega, hM2, by rw [List.map_append]; exact hI2⟩
  rw [List.map_append, List.append_assoc, h.on, List.map_cons, List.map_nil]
  exact go_on hs
/-- Check's results are laid: it ends here. -/
def ChX (kind : Int) (b : List ByteArray) (L : List (Int × Int)) (w : World) (c : Code) (pre : List AB) (W : World) : Prop :=
  c = .ret ∧ ∃ p : Int × Int, (∀ rest, go kind b L [] (pre.map (·.1) ++ rest) = p) ∧ Below w.heap.size w W ∧ W.cell? ⟨w.heap.size + 1 + 1, 0, none⟩ = some (.int .i64 p.1) ∧ W.cell? ⟨w.heap.size + 1 + 1 + 1, 0, none⟩ = some (.int .i64 p.2)
theorem ChX.own (kind : Int) (b : List ByteArray) (L : List (Int × Int)) (w : World) (B : Nat) (hB : w.heap.size + 4 ≤ B) (c : Code) : OwnFrom B (ChX kind b L w c) := fun pre W W' row h hg hr => by
  obtain ⟨h1, p, h2, h3, h4, h5⟩ := h
  have hne : ∀ k, k < B → some k ≠ row := fun k hk e => by have := (hr k e.symm).1; omega
  exact ⟨h1, p, h2, h3.grown hg h3.size (fun k e => by have := (hr k e).1; omega), hg.cell h4 (hne _ (by simp only []; omega)), hg.cell h5 (hne _ (by simp only []; omega))⟩
theorem ChX.at_ {kind : Int} {b : List ByteArray} {L : List (Int × Int)} {v8 : Value} {w w5 W : World} {pre : List AB} {x : AB} {p : Int × Int} {v sv : Value} (h : ChI kind b L v8 w5 pre W) (hc : C4 w kind v sv W) (hs : step kind b L (pre.map (·.1)) x.1 = some p) :
    KeepsFrom (w5.heap.size + 4) W ((W.setCell ⟨w.heap.size + 1 + 1, 0, none⟩ (.int .i64 p.1)).setCell ⟨w.heap.size + 1 + 1 + 1, 0, none⟩ (.int .i64 p.2)) ∧ ChX kind b L w .ret (pre ++ [x]) ((W.setCell ⟨w.heap.size + 1 + 1, 0, none⟩ (.int .i64 p.1)).setCell ⟨w.heap.size + 1 + 1 + 1, 0, none⟩ (.int .i64 p.2)) := by
  have hl := hc.laid p.1 p.2
  refine ⟨((KeepsOthers.setCell W _ _).trans (KeepsOthers.setCell _ _ _)).from _, rfl, p, fun rest => ?_, hl.1, hl.2.1, hl.2.2⟩
  rw [List.map_append, List.append_assoc, h.on, List.map_cons, List.map_nil]
  exact go_at hs
/-- In a round, the address in its box. -/
def ChA (base : Nat) (T : Array Value) (x : AB) (b : Act) (W : World) : Prop :=
  ∃ g, base ≤ g ∧ b = { tmps := (T.setIfInBounds 28 (.int .i64 x.1)).setIfInBounds 10 (.pointer (some ⟨g, 0, none⟩)), defers := [] } ∧ W.heap[g]? = some (.cells #[.int .i64 x.1] 3 (0, 0))
theorem ChA.own (base : Nat) (T : Array Value) (x : AB) (b : Act) (B : Nat) : OwnFrom B (fun (_ : Unit) W => ChA base T x b W) := fun _ W W' row h hg hr => by
  obtain ⟨g, hgB, hb, hx⟩ := h
  refine ⟨g, hgB, hb, (hg.block g (Array.getElem?_eq_some_iff.1 hx).1 (fun e => ?_)).trans hx⟩
  obtain ⟨_, o, ho, hc⟩ := hr g e.symm
  rw [hx] at ho
  cases ho
  cases hc
theorem withT {F : Fence} {n : Nat} {P : Program} {c : Code} {Q : Exit → Act → World → Prop} {T : Array Value} {ds : List Deferred} {w : World} (h : ∀ T', T' = T → c.wpIn F n P Q { tmps := T', defers := ds } w) : c.wpIn F n P Q { tmps := T, defers := ds } w := h T rfl
theorem emp (s : ByteArray) : s.toList.isEmpty = decide (s = ⟨#[]⟩) := by
  rw [Lib.toList_data]
  obtain ⟨d⟩ := s
  obtain ⟨d⟩ := d
  cases d with
  | nil => rfl
  | cons a d => exact (decide_eq_false (by simp)).symm
theorem unbox {p : Prop} (h : Hid p) : p := h.out
theorem noBool {b : Bool} (h : some undef = some (Value.bool b)) : False := by cases h
theorem step_in {kind : Int} {b : List ByteArray} {L : List (Int × Int)} {done : List Int} {z : Int} (h : L.any (inS z) = true) : step kind b L done z = some (z, 15) := by unfold step; rw [if_pos h]
theorem step_no {kind : Int} {b : List ByteArray} {L : List (Int × Int)} {done : List Int} {z : Int} (h : L.any (inS z) = false) (h2 : (decide (kind = 1) && (decide (z ∈ done) || used b z)) = false) : step kind b L done z = none := by unfold step; rw [h, h2]; rfl
theorem step_at {kind : Int} {b : List ByteArray} {L : List (Int × Int)} {done : List Int} {z : Int} (h : L.any (inS z) = false) (h2 : (decide (kind = 1) && (decide (z ∈ done) || used b z)) = true) : step kind b L done z = some (z, 8) := by unfold step; rw [h, h2]; rfl
theorem used_nat {b : List ByteArray} {k : Nat} {x : Bool} (h : decide ((k : Int) < b.length) = x) {y : Bool} (h2 : x = true → decide (b.getD k ⟨#[]⟩ = ⟨#[]⟩) = y) : used b k = (x && !y) := by
  unfold used
  rw [h]
  cases x with
  | false => rfl
  | true => rw [Int.toNat_natCast, h2 rfl]
theorem closed_in {b : List ByteArray} {l : List Se} (h : validD b l = true) : (closedL l).length ≤ 16 ∧ ∀ x ∈ closedL l, okX x := by
  obtain ⟨h1, h2⟩ := validD_ses h
  refine ⟨Nat.le_trans (closedTo_le l l.length) h2, fun x hx => ?_⟩
  obtain ⟨i, hi, _, rfl⟩ := closedTo_mem.1 hx
  obtain ⟨g1, _, g3, g4, _⟩ := ses_in h1 hi
  exact ⟨g1, g3, g4⟩
end Fi

set_option maxHeartbeats 25600000 in
set_option maxRecDepth 100000 in
/-- finalize.Check. -/
theorem check_any (kind : Int) (v sv wv : Value) (b : List ByteArray) (l : List Fi.Se) (ws : List Fi.Wr) (pv : Bool) (w : World) (hm : Lm.Strs w v b) (hs : Fi.Sess w sv l) (hw : Fi.Wrs w wv ws)
    (hpv : ∀ W, Below w.heap.size w W → Calls Tryz.prog 22 #[v, wv] W fun e w' => e = .returned (.bool pv) ∧ Below W.heap.size W w') (hok : pv = true → ∀ j, j < ws.length → Fi.okW (ws.getD j Fi.wr0)) (hN : (Fi.adrs ws).length ≤ 1000000000) :
    Calls Tryz.prog 10 #[.int .i64 kind, .agg #[v, sv], wv] w fun e w' => e = .returned (.tuple #[.int .i64 (Fi.chkR kind b l pv ws).1, .int .i64 (Fi.chkR kind b l pv ws).2]) ∧ Below w.heap.size w w' := by
  obtain ⟨R, HR⟩ : ∃ R, Hid (R = Fi.chkR kind b l pv ws) := ⟨_, Lib.hid rfl⟩
  rw [← HR.out]
  have HM := Lib.hid hm
  have HS := Lib.hid hs
  have HW := Lib.hid hw
  have HPV := Lib.hid hpv
  have HOK := Lib.hid hok
  have HNN := Lib.hid hN
  obtain ⟨A, c, rfl, hlc, hcm, _⟩ := hm
  obtain ⟨D, d, rfl, hld, hdm, _⟩ := hs
  obtain ⟨A3, c3, rfl, hlw, hwm, _⟩ := hw
  rw [Lm.strs_length] at *
  unfold maxLen at hcm hdm hwm
  have CA := Lib.hid (fun W hb => mValidD_any _ _ b l W (HM.out.below hb) (HS.out.below hb))
  have CC := Lib.hid (fun W hb => closed_any _ _ b l W (HM.out.below hb) (HS.out.below hb))
  have h4 := Fi.C4.start w kind (.slice A b.length c) (.slice D l.length d)
  have H4 := Lib.hid h4
  have x0 := Fi.box_cell h4.d 0
  have x1 := Fi.box_cell h4.d 1
  simp only [List.getElem?_toArray, List.getElem?_cons_zero, List.getElem?_cons_succ] at x0 x1
  clear hpv hok hN h4
  refine (callsIn_wide (n := 6)).1 ?_
  refine callsIn_of_wp_marks Tryz.func10 rfl trivial ?_ rfl
  simp only [Tryz.ntmps10, List.size_toArray, List.length_cons, List.length_nil, Nat.reduceAdd, Nat.reduceSub, Array.replicate_succ, Array.replicate_zero, List.push_toArray, List.append_toArray, List.nil_append, List.cons_append]
  gi_wp2
  refine ⟨trivial, ?_⟩
  refine (callsIn_wide.2 (CA.out _ H4.out.bel)).mono ?_
  rintro e w2 ⟨rfl, hb2⟩
  have h42 := H4.out.later hb2 H4.out.size
  have H42 := Lib.hid h42
  clear x0 x1 hb2 H4 CA
  have x0 := Fi.box_cell h42.d 0
  have x1 := Fi.box_cell h42.d 1
  have k0 := Fi.box_cell h42.k 0
  have r6 := Fi.box_cell h42.r6 0
  have r7 := Fi.box_cell h42.r7 0
  have f6 : w2.frozen? ⟨w.heap.size + 1 + 1, 0, none⟩ = false := Boxed.frozen h42.r6
  have f7 : w2.frozen? ⟨w.heap.size + 1 + 1 + 1, 0, none⟩ = false := Boxed.frozen h42.r7
  simp only [List.getElem?_toArray, List.getElem?_cons_zero, List.getElem?_cons_succ] at x0 x1 k0 r6 r7
  clear h42
  cases hvd : Fi.validD b l with
  | false =>
    have HR' := Lib.hid (HR.out.trans (show Fi.chkR kind b l pv ws = (0, 1) by unfold Fi.chkR; rw [hvd, Bool.false_and, if_neg (by simp)]))
    have hf := H42.out.laid 0 1
    clear hvd
    gi_wp2
    refine ⟨trivial, ?_⟩
    gi_wp2
    rw [HR'.out]
    exact ⟨_, Fi.chk_results _ _ _ _ _ _ hf.2.1 hf.2.2 rfl rfl, rfl, hf.1⟩
  | true =>
  gi_wp2
  refine ⟨trivial, ?_⟩
  refine (callsIn_wide.2 (HPV.out _ H42.out.bel)).mono ?_
  rintro e w3 ⟨rfl, hb3⟩
  have h43 := H42.out.later hb3 H42.out.size
  have H43 := Lib.hid h43
  clear x0 x1 k0 r6 r7 f6 f7 hb3 H42 HPV
  have x0 := Fi.box_cell h43.d 0
  have x1 := Fi.box_cell h43.d 1
  have k0 := Fi.box_cell h43.k 0
  have r6 := Fi.box_cell h43.r6 0
  have r7 := Fi.box_cell h43.r7 0
  have f6 : w3.frozen? ⟨w.heap.size + 1 + 1, 0, none⟩ = false := Boxed.frozen h43.r6
  have f7 : w3.frozen? ⟨w.heap.size + 1 + 1 + 1, 0, none⟩ = false := Boxed.frozen h43.r7
  simp only [List.getElem?_toArray, List.getElem?_cons_zero, List.getElem?_cons_succ] at x0 x1 k0 r6 r7
  clear h43
  cases hpv : pv with
  | false =>
    have HR' := Lib.hid (HR.out.trans (show Fi.chkR kind b l pv ws = (0, 1) by unfold Fi.chkR; rw [hpv, Bool.and_false, if_neg (by simp)]))
    have hf := H43.out.laid 0 1
    clear hvd hpv
    gi_wp2
    rw [HR'.out]
    exact ⟨_, Fi.chk_results _ _ _ _ _ _ hf.2.1 hf.2.2 rfl rfl, rfl, hf.1⟩
  | true =>
  have HOK' := Lib.hid (HOK.out hpv)
  by_cases hk : kind = 0
  · have HR' := Lib.hid (HR.out.trans (show Fi.chkR kind b l pv ws = (0, 15) by unfold Fi.chkR; simp [hvd, hpv, hk]))
    have hf := H43.out.laid 0 15
    clear hvd hpv
    subst hk
    gi_wp2
    rw [HR'.out]
    exact ⟨_, Fi.chk_results _ _ _ _ _ _ hf.2.1 hf.2.2 rfl rfl, rfl, hf.1⟩
  have HR' := Lib.hid (HR.out.trans (show Fi.chkR kind b l pv ws = Fi.go kind b (Fi.closedL l) [] (Fi.adrs ws) by unfold Fi.chkR; simp [hvd, hpv, hk]))
  have ek : (kind == 0) = false := by simpa using hk
  have HVD := Lib.hid hvd
  have hmm := @run_makeMap Tryz.prog
  clear HR HOK hvd hpv hk
  gi_wp2
  refine ⟨trivial, ?_⟩
  refine (callsIn_wide.2 (CC.out _ H43.out.bel)).mono ?_
  rintro e w5 ⟨r, rfl, hown, hb5⟩
  rw [HVD.out, if_pos rfl] at hown
  have h45 := H43.out.later hb5 H43.out.size
  have H45 := Lib.hid h45
  clear x0 x1 k0 r6 r7 f6 f7 CC H43 hb5
  have HO := Lib.hid hown
  have HRN := Lib.hid hown.row
  obtain ⟨A9, c9, rfl, h91, h92, _⟩ := hown.row
  unfold maxLen at h92
  have CAD := Lib.hid (fun W => addrs_any _ A3 ws.length c3 rfl W)
  have b59 := hown.lt
  clear hown h45
  gi_wp2
  refine ⟨trivial, ?_⟩
  refine (callsIn_wide.2 (CAD.out _)).mono ?_
  rintro e w6 ⟨rfl, hw6⟩
  have HW6 := Lib.hid hw6
  clear CAD hw6
  gi_wp2
  have hw6 := HW6.out
  have hsz6 : w6.heap.size = w5.heap.size + 4 := by rw [hw6]; simp
  have hb56 : Below w5.heap.size w5 w6 := by
    rw [hw6]
    exact ((((Below.refl _ w5).alloc (Nat.le_refl _) _).alloc (by simp) _).alloc (by simp <;> omega) _).alloc (by simp <;> omega) _
  have hx8 : w6.heap[w5.heap.size + 1]? = some (.cells #[.slice A9 (Fi.closedL l).length c9] 45 (0, 0)) := by
    rw [hw6]
    refine (Below.heap_alloc _ _ _ (by simp)).trans ((Below.heap_alloc _ _ _ (by simp)).trans ?_)
    have := World.alloc_heap_new (w5.alloc (.map #[] 0)) (.cells #[.slice A9 (Fi.closedL l).length c9] 45)
    rwa [World.size_alloc] at this
  have hx9 : w6.heap[w5.heap.size + 1 + 1]? = some (.cells #[.map (some w5.heap.size)] 85 (0, 0)) := by
    rw [hw6]
    refine (Below.heap_alloc _ _ _ (by simp)).trans ?_
    have := World.alloc_heap_new ((w5.alloc (.map #[] 0)).alloc (.cells #[.slice A9 (Fi.closedL l).length c9] 45)) (.cells #[.map (some w5.heap.size)] 85)
    simpa using this
  have hxa : w6.heap[w5.heap.size + 1 + 1 + 1]? = some (.cells #[.slice A3 ws.length c3] 32 (0, 0)) := by
    rw [hw6]
    have := World.alloc_heap_new (((w5.alloc (.map #[] 0)).alloc (.cells #[.slice A9 (Fi.closedL l).length c9] 45)).alloc (.cells #[.map (some w5.heap.size)] 85)) (.cells #[.slice A3 ws.length c3] 32)
    simpa using this
  have hm0 : Fi.BM w6 w5.heap.size 0 (.map []) := by
    rw [hw6]
    have h := World.ownsMap_made w5 Tryz.prog 3 Fi.asV
    exact ((h.kept (World.grownBy_alloc _ _ none) (by simp)).kept (World.grownBy_alloc _ _ none) (by simp)).kept (World.grownBy_alloc _ _ none) (by simp)
  have hI0 : Fi.ChI kind b (Fi.closedL l) (.slice A9 (Fi.closedL l).length c9) w5 [] w6 := ⟨hb56, by omega, hx8, hx9, fun _ => rfl, 0, _, Nat.le_refl _, hm0, Fi.BIs.nil⟩
  have hb05 : Below w.heap.size w w5 := H45.out.bel
  have hsz45 := H45.out.size
  clear hm0 hx8 hx9 hw6
  have hST := addr_stops 5 (by omega) w5.heap.size (w5.heap.size + 1 + 1 + 1) _ ws w6 (by omega) hxa (fun W' h => HW.out.below (hb05.trans ((hb56.trans h).mono (by omega)))) HOK'.out
  refine Fi.withT fun T hT => ?_
  refine wpIn_rangeFunc_ownH rfl (by omega) (gf := 44) (lb := #[.pointer (some ⟨w5.heap.size + 1 + 1 + 1, 0, none⟩)]) (by rw [hT]; simp [Act.eval]) trivial (enters_of Tryz.func44 (by kernel_rfl) rfl)
    hST Fi.Kp.trans (Fi.Kp.putObj (by omega)) (Below.refl _ _) (fun _ => rfl) (Fi.ChI kind b (Fi.closedL l) (.slice A9 (Fi.closedL l).length c9) w5) (Fi.ChX kind b (Fi.closedL l) w) ?_ ?_ hI0 (Fi.ChA w6.heap.size T) ?_ ?_ ?_ ?_ ?_
  · rw [hsz6]; exact Fi.ChI.own _ _ _ _ _
  · exact Fi.ChX.own _ _ _ _ _ (by omega)
  · exact fun x a' => Fi.ChA.own _ _ x a' _
  · rintro ll pre ⟨z, hz0, hz1⟩ W K hI hK
    subst hT
    have hbx := World.alloc_heap_new W (.cells #[.int .i64 z] 3)
    have hIa := (Fi.ChI.own _ _ _ _ _).alloc (.cells #[.int .i64 z] 3) hI
    have hsW := hI.size
    have hK' := hK _ _ ((KeepsOthers.alloc W (.cells #[.int .i64 z] 3)).from _) ⟨(Below.refl _ W).alloc (by omega) _, by simp, fun k cs T _ ho => (Below.heap_alloc _ _ _ (Array.getElem?_eq_some_iff.1 ho).1).trans ho⟩ hIa ⟨W.heap.size, by omega, rfl, hbx⟩
    dsimp only []
    gi_wp2
    exact hK'
  · rintro ll pre ⟨z, hz0, hz1⟩ a' W hll _ hI ⟨g, hgB, rfl, hx⟩ hlen
    subst hT
    dsimp only []
    have hsW := hI.size
    obtain ⟨zn, rfl⟩ : ∃ zn : Nat, z = zn := ⟨z.toNat, by omega⟩
    have cx : W.cell? ⟨g, 0, none⟩ = some (.int .i64 zn) := Fi.box_cell hx 0
    have c8 : W.cell? ⟨w5.heap.size + 1, 0, none⟩ = some (.slice A9 (Fi.closedL l).length c9) := Fi.box_cell hI.b8 0
    have HIN := Lib.hid (Fi.closed_in HVD.out)
    have CS := Lib.hid (containsS_any (.slice A9 (Fi.closedL l).length c9) (Fi.closedL l) zn g W (HRN.out.below (hI.bel)) HIN.out.1 HIN.out.2 cx)
    have hgW := (Array.getElem?_eq_some_iff.1 hx).1
    obtain ⟨an, han⟩ : ∃ an, (Fi.closedL l).any (Fi.inS zn) = an := ⟨_, rfl⟩
    have HAN := Lib.hid han
    rw [han] at CS
    have HI := Lib.hid hI
    have HX := Lib.hid hx
    clear hI hx cx han
    gi_wp2
    refine ⟨trivial, ?_⟩
    refine (CallsIn.inRound ll (callsIn_wide.2 CS.out)).mono ?_
    rintro e W1 ⟨rfl, hb1⟩
    have KO := Lib.hid (show KeepsFrom w6.heap.size W W1 from ⟨hb1.size, fun k o _ hk _ => (hb1.block k (Array.getElem?_eq_some_iff.1 hk).1).trans hk⟩)
    have hI1 := Fi.ChI.own _ _ _ _ _ pre W W1 none HI.out (Kit.grown_of_below hb1) (fun r e => by cases e)
    have hC1 := H45.out.later hI1.bel hsz45
    have KP := Lib.hid (show Fi.Kp w5.heap.size W W1 from ⟨hb1.mono (by omega), hb1.size, fun k cs T _ hk => (hb1.block k (Array.getElem?_eq_some_iff.1 hk).1).trans hk⟩)
    have cx : W1.cell? ⟨g, 0, none⟩ = some (.int .i64 zn) := Fi.box_cell ((hb1.block _ hgW).trans HX.out) 0
    have q9 : W1.cell? ⟨w5.heap.size + 1 + 1, 0, none⟩ = some (.map (some w5.heap.size)) := Fi.box_cell hI1.b9 0
    have k0 : W1.cell? ⟨w.heap.size, 0, none⟩ = some (.int .i64 kind) := Fi.box_cell hC1.k 0
    have x0 : W1.cell? ⟨w.heap.size + 1, 0, none⟩ = some (.slice A b.length c) := Fi.box_cell hC1.d 0
    have r6 : W1.cell? ⟨w.heap.size + 1 + 1, 0, none⟩ = some (.int .i64 0) := Fi.box_cell hC1.r6 0
    have r7 : W1.cell? ⟨w.heap.size + 1 + 1 + 1, 0, none⟩ = some (.int .i64 0) := Fi.box_cell hC1.r7 0
    have f6 : W1.frozen? ⟨w.heap.size + 1 + 1, 0, none⟩ = false := Boxed.frozen hC1.r6
    have f7 : W1.frozen? ⟨w.heap.size + 1 + 1 + 1, 0, none⟩ = false := Boxed.frozen hC1.r7
    obtain ⟨n, DM, hn, hBM, hBI⟩ := hI1.map
    have lk := Fi.look_done hBM hBI (zn : Int) (WalkArith.wf_i64 (by omega))
    have HBM := Lib.hid hBM
    have HBI := Lib.hid hBI
    have hpl : pre.length < 1000000000 := by have := HNN.out; omega
    have HS1 := Lib.hid (HM.out.below (hb05.trans (hI1.bel.mono hb05.size)))
    have hC2 : KeepsFrom (w5.heap.size + 4) W W1 := hsz6 ▸ KO.out
    have HFX := Lib.hid (fun (p : Int × Int) h => (Fi.ChX.at_ (x := ⟨(zn : Int), hz0, hz1⟩) (p := p) hI1 hC1 h))
    have HFP := Lib.hid (fun (W2 : World) hg h2 hs => Fi.ChI.put (x := ⟨(zn : Int), hz0, hz1⟩) (W2 := W2) hI1 hBM hg hn h2 (hBI.put hBM.isMap (zn : Int)) hs)
    have hkey : keyOf Tryz.prog 3 (.int .i64 zn) = some (.int .i64 zn) := keyOf_int_mk Tryz.underlying3 (WalkArith.wf_i64 (by omega))
    have HKEY := Lib.hid hkey
    clear hb1 hI1 hC1 hBM hBI hkey c8 HX HI
    cases an with
    | true =>
      have hfin := HFX.out _ (Fi.step_in HAN.out)
      gi_wp2
      exact ⟨KO.out.trans (hsz6 ▸ hfin.1), hfin.2⟩
    | false =>
      by_cases hk : kind = 1
      · subst hk
        obtain ⟨dn, hdn⟩ : ∃ dn, decide ((zn : Int) ∈ pre.map (·.1)) = dn := ⟨_, rfl⟩
        have HDN := Lib.hid hdn
        rw [hdn] at lk
        cases dn with
        | true =>
          have hfin := HFX.out _ (Fi.step_at HAN.out (by rw [hdn]; rfl))
          clear hdn
          gi_wp2
          exact ⟨KO.out.trans (hsz6 ▸ hfin.1), hfin.2⟩
        | false =>
          clear hdn
          by_cases hlt : zn < b.length
          · have dlt : decide ((zn : Int) < (b.length : Int)) = true := decide_eq_true (by omega)
            obtain ⟨bg, bo, bc, hv2, hbl, hcell⟩ := Lm.Strs.cell HS1.out hlt
            obtain ⟨rfl, _, rfl⟩ : A = some ⟨bg, bo, none⟩ ∧ b.length = b.length ∧ c = bc := by simpa using hv2
            clear hv2
            obtain ⟨sb, hsb⟩ : ∃ sb, b.getD zn ⟨#[]⟩ = sb := ⟨_, rfl⟩
            rw [hsb] at hcell
            by_cases hse : sb = ⟨#[]⟩
            · have hs0 := Fi.step_no (kind := 1) (b := b) (done := pre.map (·.1)) HAN.out (by rw [HDN.out, Fi.used_nat dlt (fun _ => show decide (b.getD zn ⟨#[]⟩ = ⟨#[]⟩) = true from by rw [hsb]; exact decide_eq_true hse)]; rfl)
              have es : (!sb.toList.isEmpty) = false := by rw [Fi.emp, decide_eq_true hse]; rfl
              clear hse hsb
              gi_wp2_with (gi_at_mapUpdate; refine Fi.unbox ?_)
              refine Lib.hid ?_
              refine wpListIn_mapUpdate_own _ rfl _ _ _ 85 rfl 3 4 Fi.keyedI Tryz.underlying85 _ w5.heap.size n DM rfl HBM.out (by unfold maxLen; omega) _ _ (.int .i64 zn) rfl rfl HKEY.out (.held (.bool true)) [] rfl ?_
              intro W2 ho2 hg2
              have hfin := HFP.out W2 hg2 ho2 hs0
              gi_wp2
              exact ⟨KO.out.trans (hsz6 ▸ hfin.1), KP.out.trans hfin.2.1, hfin.2.2⟩
            · have hfin := HFX.out _ (Fi.step_at HAN.out (by rw [HDN.out, Fi.used_nat dlt (fun _ => show decide (b.getD zn ⟨#[]⟩ = ⟨#[]⟩) = false from by rw [hsb]; exact decide_eq_false hse)]; rfl))
              have es : (!sb.toList.isEmpty) = true := by rw [Fi.emp, decide_eq_false hse]; rfl
              clear hse hsb
              gi_wp2
              exact ⟨KO.out.trans (hsz6 ▸ hfin.1), hfin.2⟩
          · have dlt : decide ((zn : Int) < (b.length : Int)) = false := decide_eq_false (by omega)
            have hs0 := Fi.step_no (kind := 1) (b := b) (done := pre.map (·.1)) HAN.out (by rw [HDN.out, Fi.used_nat dlt (y := true) (fun h => by cases h)]; rfl)
            gi_wp2_with (gi_at_mapUpdate; refine Fi.unbox ?_)
            iterate 4 (try (exfalso; refine Fi.noBool (b := ?_) ?_; rotate_left; assumption))
            refine Lib.hid ?_
            refine wpListIn_mapUpdate_own _ rfl _ _ _ 85 rfl 3 4 Fi.keyedI Tryz.underlying85 _ w5.heap.size n DM rfl HBM.out (by unfold maxLen; omega) _ _ (.int .i64 zn) rfl rfl HKEY.out (.held (.bool true)) [] rfl ?_
            intro W2 ho2 hg2
            have hfin := HFP.out W2 hg2 ho2 hs0
            gi_wp2
            exact ⟨KO.out.trans (hsz6 ▸ hfin.1), KP.out.trans hfin.2.1, hfin.2.2⟩
      · have e1 : (kind == 1) = false := by simpa using hk
        have hs0 := Fi.step_no (kind := kind) (b := b) (done := pre.map (·.1)) HAN.out (by rw [decide_eq_false hk]; rfl)
        gi_wp2_with (gi_at_mapUpdate; refine Fi.unbox ?_)
        iterate 4 (try (exfalso; refine Fi.noBool (b := ?_) ?_; rotate_left; assumption))
        refine Lib.hid ?_
        refine wpListIn_mapUpdate_own _ rfl _ _ _ 85 rfl 3 4 Fi.keyedI Tryz.underlying85 _ w5.heap.size n DM rfl HBM.out (by unfold maxLen; omega) _ _ (.int .i64 zn) rfl rfl HKEY.out (.held (.bool true)) [] rfl ?_
        intro W2 ho2 hg2
        have hfin := HFP.out W2 hg2 ho2 hs0
        gi_wp2
        exact ⟨KO.out.trans (hsz6 ▸ hfin.1), KP.out.trans hfin.2.1, hfin.2.2⟩
  · rintro DD ys W hD hys hI hdef
    have hC := H45.out.later hI.bel hsz45
    have hp := hI.on []
    rw [List.append_nil, hys] at hp
    have hlaid := hC.laid 0 0
    have r6 : W.cell? ⟨w.heap.size + 1 + 1, 0, none⟩ = some (.int .i64 0) := Fi.box_cell hC.r6 0
    have r7 : W.cell? ⟨w.heap.size + 1 + 1 + 1, 0, none⟩ = some (.int .i64 0) := Fi.box_cell hC.r7 0
    have f6 : W.frozen? ⟨w.heap.size + 1 + 1, 0, none⟩ = false := Boxed.frozen hC.r6
    have f7 : W.frozen? ⟨w.heap.size + 1 + 1 + 1, 0, none⟩ = false := Boxed.frozen hC.r7
    have HRR := Lib.hid (HR'.out.trans hp)
    have hD' : w.heap.size + 4 ≤ DD := by omega
    have HLD := Lib.hid hlaid
    have hDW := (Array.getElem?_eq_some_iff.1 hdef).1
    have HDF := Lib.hid (show ((W.setCell ⟨w.heap.size + 1 + 1, 0, none⟩ (.int .i64 0)).setCell ⟨w.heap.size + 1 + 1 + 1, 0, none⟩ (.int .i64 0)).heap[DD]? = some (.deferred (some [])) from (Below.heap_setCell _ _ _ DD (by simp only []; omega)).trans ((Below.heap_setCell _ _ _ DD (by simp only []; omega)).trans hdef))
    subst hT
    have hput := grownBy_putObj' ((W.setCell ⟨w.heap.size + 1 + 1, 0, none⟩ (.int .i64 0)).setCell ⟨w.heap.size + 1 + 1 + 1, 0, none⟩ (.int .i64 0)) DD (.deferred none)
    have HPT := Lib.hid hput
    clear hC hp hlaid hI hdef hys hput
    gi_wp2
    refine ⟨by simp, .inl ⟨_, _, rfl, run_takeDeferred HDF.out, ?_⟩⟩
    rw [HRR.out]
    exact ⟨_, Fi.chk_results _ _ _ _ _ _ (HPT.out.cell HLD.out.2.1 (fun e => by have e' : w.heap.size + 1 + 1 = DD := Option.some.inj e; omega)) (HPT.out.cell HLD.out.2.2 (fun e => by have e' : w.heap.size + 1 + 1 + 1 = DD := Option.some.inj e; omega)) rfl rfl, rfl, HLD.out.1.grown HPT.out HLD.out.1.size (fun k e => by cases e; omega)⟩
  · rintro DD cc pre W hD hpre ⟨rfl, p, hp, hX1, hX2, hX3⟩ hdef
    subst hT
    refine wpIn_ret ?_
    unfold Exit.inBlock Exit.then
    simp only []
    have hput := grownBy_putObj' W DD (.deferred none)
    refine ⟨by simp, .inl ⟨_, _, rfl, run_takeDeferred hdef, ?_⟩⟩
    obtain ⟨rest, hrest⟩ := hpre
    have hpp := hp rest
    rw [hrest] at hpp
    rw [HR'.out, hpp]
    exact ⟨_, Fi.chk_results _ _ _ _ _ _ (hput.cell hX2 (fun e => by have e' : w.heap.size + 1 + 1 = DD := Option.some.inj e; omega)) (hput.cell hX3 (fun e => by have e' : w.heap.size + 1 + 1 + 1 = DD := Option.some.inj e; omega)) rfl rfl, rfl, hX1.grown hput hX1.size (fun k e => by cases e; omega)⟩
end Go.Proofs.YtiekfipjbmdkpaaGreatDoor
