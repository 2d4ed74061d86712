/-
  The iterator of pieces: its contract for a range over a function.
-/
import Derived.RangeFuncNested
import Derived.RangeFuncBound
import Derived.RangeFuncCalls
import Derived.RangeFuncLeaves
import Derived.RangeFuncBox
import Derived.Shelf.Abstract
import Derived.Shelf.RegionOpen
import Derived.OwnWalkIn
import Derived.TacticsInMore
import Derived.LoopNIn
import Derived.LoopIn
import Derived.Maps.OwnIn
import Derived.StringKeys
import Derived.BigRegionIn
import Derived.Sort.CutIn
import Derived.Test.YtlhechlbmbjffaaDoorJe
import Derived.Test.YtlhechlbmbjffaaDoorJc
namespace Go.Proofs.YtlhechlbmbjffaaDoor
open Go.RowKit Go.Shelf Go.Maps
attribute [local go_sem] Oper.semAt_some
namespace Lm
/-- A piece of a bounded size. -/
abbrev PB := { p : P // okP p = true }
/-- A piece as a value. -/
def pV (p : P) : Value := .agg #[.string p.path, .int .i64 p.off, .int .i64 p.len, .string p.data, .bool p.ok]
/-- The types of the iterator's own variables. -/
def own3 (T : TypeId) : Bool := T == 41 || (T == 23 || T == 24)
/-- What a round that goes on keeps: what lay below n₀, the walks from B on, variables of the iterator's types. -/
structure Kp (n₀ B : Nat) (W W' : World) : Prop where
  bel : Below n₀ W W'
  size : W.heap.size ≤ W'.heap.size
  walks : ∀ (k : Nat) (o : Obj), B ≤ k → W.heap[k]? = some o → o.isWalk = true → W'.heap[k]? = some o
  boxes : ∀ (k : Nat) (cs : Array Value) (T : TypeId), own3 T = true → W.heap[k]? = some (.cells cs T (0, 0)) → W'.heap[k]? = some (.cells cs T (0, 0))
theorem Kp.trans {n₀ B : Nat} {X Y Z : World} (h : Kp n₀ B X Y) (k : Kp n₀ B Y Z) : Kp n₀ B X Z :=
  ⟨h.bel.trans k.bel, Nat.le_trans h.size k.size, fun i o hB hi ho => k.walks i o hB (h.walks i o hB hi ho) ho, fun i cs T hT hi => k.boxes i cs T hT (h.boxes i cs T hT hi)⟩
theorem box_cell {W : World} {g : Nat} {cs : Array Value} {T : TypeId} (h : W.heap[g]? = some (.cells cs T (0, 0))) (q : Nat) : W.cell? ⟨g, q, none⟩ = cs[q]? := cell_of_row W g q cs T (0, 0) h
/-- The map of running offsets. -/
abbrev AtMap (w : World) (b n : Nat) (D : DataW Unit) : Prop := w.ownsMap Tryd.prog 9 (plainElem Tryd.prog 3) b n D
/-- What it reads. -/
def AtIs (D : DataW Unit) (at' : ByteArray → Int) : Prop := ∀ p : ByteArray, D.atKey (.string p.data.toList) (.lit (.int .i64 0)) = .lit (.int .i64 (at' p))
theorem AtMap.walk {W W' : World} {b n : Nat} {D : DataW Unit} (h : AtMap W b n D) (hk : ∀ o : Obj, W.heap[b]? = some o → o.isWalk = true → W'.heap[b]? = some o) : AtMap W' b n D := by
  obtain ⟨es, cl, h1, h2⟩ := h
  exact ⟨es, cl, hk _ h1 rfl, h2⟩
theorem lit_inj {a b : Int} (h : (DataW.lit (.int .i64 a) : DataW Unit) = .lit (.int .i64 b)) : a = b := by
  injection h with h
  injection h
theorem AtIs.nil : AtIs (.map []) (offR []) := fun _ => rfl
theorem AtIs.put {D : DataW Unit} {a : ByteArray → Int} (h : AtIs D a) (hD : IsMap D) (q : ByteArray) (z : Int) : AtIs (D.put (.string q.data.toList) (.lit (.int .i64 z))) (fun p => if p = q then z else a p) := fun p => by
  by_cases hp : p = q
  · subst hp
    simp only [if_true]
    exact atKey_put_same hD (show WideAt.IsKeyLit (.string p.data.toList) from trivial) _ _
  · simp only [if_neg hp]
    rw [atKey_put_other (by
      intro h
      apply hp
      have h' : p.data.toList = q.data.toList := by injection h
      cases p; cases q
      simp at h'
      rw [h']) _ _]
    exact h p
theorem range_pfx {α : Type} (g : Nat → α) (a : List α) {i N : Nat} (h : i < N) : a ++ (List.range (i + 1)).map g <+: a ++ (List.range N).map g := by
  rw [List.prefix_append_right_inj]
  obtain ⟨d, rfl⟩ : ∃ d, N = (i + 1) + d := ⟨N - (i + 1), by omega⟩
  rw [show List.range (i + 1 + d) = List.range (i + 1) ++ (List.range d).map (i + 1 + ·) from List.range_add .., List.map_append]
  exact List.prefix_append _ _
theorem heap_grown {W W' : World} {row k : Nat} {o : Obj} (hg : W.grownBy W' (some row)) (h : W.heap[k]? = some o) (hne : k ≠ row) : W'.heap[k]? = some o :=
  (hg.block k (Array.getElem?_eq_some_iff.1 h).1 (fun e => hne (Option.some.inj e))).trans h
end Lm

set_option maxHeartbeats 12800000 in
set_option maxRecDepth 100000 in
/-- pieces$1. -/
theorem pieces1_in (n : Nat) (hn : 2 ≤ n) (l n₀ b2 b3 B : Nat) (v2 v3 : Value) (img : List ByteArray) (fs : List Lm.F) (J Jx : List Lm.PB → World → Prop) (W : World) (hBW : B ≤ W.heap.size) (hn₀ : n₀ ≤ W.heap.size)
    (hJ : AbidesFrom W.heap.size J)
    (hY : ∀ pre x W1, J pre W1 → pre.length < (Lm.piecesR img fs).length → YieldAt Fence.wide (n - 1) Tryd.prog l #[Lm.pV x.1] W1 fun e W' =>
      (e = .returned (.bool true) ∧ J (pre ++ [x]) W' ∧ Lm.Kp n₀ B W1 W') ∨ (e = .returned (.bool false) ∧ Jx (pre ++ [x]) W'))
    (hx2 : W.heap[b2]? = some (.cells #[v2] 23 (0, 0))) (hx3 : W.heap[b3]? = some (.cells #[v3] 24 (0, 0)))
    (hm : ∀ W', Below n₀ W W' → Lm.Strs W' v2 img) (hf : ∀ W', Below n₀ W W' → Lm.Files W' v3 fs) (hall : fs.all Lm.okF = true) (h50 : fs.length ≤ 1024) (h700 : img.length ≤ 4096) (hps : ∀ j, j < fs.length → (fs.getD j Lm.f0).path.size ≤ 500) (h0 : J [] W) :
    CallsIn Fence.wide n Tryd.prog 49 #[.func (.yield l) #[] #[], .pointer (some ⟨b3, 0, none⟩), .pointer (some ⟨b2, 0, none⟩)] W fun e W' => (∃ v, e = .returned v) ∧
      ((∃ ys : List Lm.PB, ys.map (·.1) = Lm.piecesR img fs ∧ J ys W') ∨ (∃ pre : List Lm.PB, pre.map (·.1) <+: Lm.piecesR img fs ∧ Jx pre W')) := by
  have HF := Lib.hid hf
  have HM := Lib.hid hm
  have HY := Lib.hid hY
  have HJ := Lib.hid hJ
  have HALL := Lib.hid hall
  have HPS := Lib.hid hps
  have hc3 : W.cell? ⟨b3, 0, none⟩ = some v3 := Lm.box_cell hx3 0
  have h2W := (Array.getElem?_eq_some_iff.1 hx2).1
  have HX2 := Lib.hid hx2
  clear hx2 hx3
  have hmm := @run_makeMap Tryd.prog
  obtain ⟨A3, c3, hv3, hl3, hm3, _⟩ := hf W (Below.refl _ _)
  obtain ⟨A2, c2', hv2, hl2, hm2, _⟩ := hm W (Below.refl _ _)
  subst hv3 hv2
  rw [Lm.strs_length] at *
  unfold maxLen at hm2 hm3
  clear hf hm hY hJ hall hps
  have hM0 := World.ownsMap_made W Tryd.prog 9 (plainElem (H := Unit) Tryd.prog 3)
  have HM0 := Lib.hid (show Lm.AtMap (W.alloc (.map #[] 0)) W.heap.size 0 (.map []) from hM0)
  clear hM0
  have hg0 : W.grownBy (W.alloc (.map #[] 0)) none := World.grownBy_alloc W _ none
  have HJ0 := Lib.hid (HJ.out [] _ _ none h0 hg0 (fun r e => by cases e))
  have HB0 := Lib.hid (show Below W.heap.size W (W.alloc (.map #[] 0)) from (Below.refl _ W).alloc (Nat.le_refl _) _)
  clear hg0 h0
  refine callsIn_of_wp Tryd.func49 rfl trivial ?_ rfl
  simp only [Tryd.ntmps49, List.size_toArray, List.length_cons, List.length_nil, Nat.reduceAdd, Nat.reduceSub, Array.replicate_succ, Array.replicate_zero, List.push_toArray, List.append_toArray, List.nil_append, List.cons_append]
  have hc3' := (HB0.out.cell (p := ⟨b3, 0, none⟩) (World.block_lt_of_cell? _ _ hc3)).trans hc3
  clear hc3
  gi_wp2
  clear hc3' hmm
  gi_loopw [6, 7, 8, 9, 13, 20] (fun _ _ _ _ iv _ wr => ∃ (j : Nat) (pre : List Lm.PB) (kk : Nat) (D : DataW Unit), j ≤ fs.length ∧ iv = .int .i64 j ∧ Hid (pre.map (·.1) = Lm.upTo img fs j) ∧ Hid (J pre wr) ∧ Hid (Lm.AtMap wr W.heap.size kk D) ∧ kk ≤ 4096 * j ∧ Hid (Lm.AtIs D (Lm.offR (fs.take j))) ∧ Hid (Below n₀ W wr) ∧ W.heap.size < wr.heap.size ∧ Hid (wr.heap[b2]? = some (.cells #[.slice A2 img.length c2'] 23 (0, 0)))) (fun _ _ _ _ iv _ _ => fs.length - (intOf iv).toNat)
  case atStart => exact ⟨0, [], 0, .map [], Nat.zero_le _, rfl, Lib.hid rfl, HJ0, HM0, Nat.le_refl _, Lib.hid Lm.AtIs.nil, Lib.hid (HB0.out.mono hn₀), by simp, Lib.hid ((Below.heap_alloc W _ b2 h2W).trans HX2.out)⟩
  case round =>
    obtain ⟨j, pre, kk, D, hj, rfl, HPRE, HJp, HAM, hkk, HAT, HBL, hsz, HB2⟩ := hrel
    obtain ⟨wo, rfl⟩ : ∃ wo : World, wo = wr := ⟨_, rfl⟩
    by_cases hlt : j < fs.length
    · obtain ⟨A', c', hv', _, _, hcells⟩ := HF.out wo HBL.out
      obtain ⟨g, o, rfl, hgl, hc⟩ := hcells (by omega)
      obtain ⟨rfl, _, rfl⟩ : A3 = some ⟨g, o, none⟩ ∧ fs.length = fs.length ∧ c3 = c' := by simpa using hv'
      clear hv' hcells
      have q0 := hc j hlt 0 _ rfl
      have q1 := hc j hlt 1 _ rfl
      have q2 := hc j hlt 2 _ rfl
      have hf := (Lm.okF_iff _).1 (Lm.all_get (d := Lm.f0) HALL.out hlt)
      have hps := HPS.out j hlt
      have hob := Lm.offR_bd HALL.out j (fs.getD j Lm.f0).path
      have HUP := Lib.hid (show Lm.upTo img fs (j + 1) = Lm.upTo img fs j ++ (List.range (Lm.blk (fs.getD j Lm.f0).len).toNat).map (Lm.pieceR img (fs.getD j Lm.f0) (Lm.offR (fs.take j) (fs.getD j Lm.f0).path)) from Lm.upTo_succ img fs j)
      have HTOT := Lib.hid (show Lm.upTo img fs (j + 1) <+: Lm.piecesR img fs from by
        unfold Lm.piecesR Lm.upTo
        obtain ⟨d, hd⟩ : ∃ d, fs.length = (j + 1) + d := ⟨fs.length - (j + 1), by omega⟩
        rw [hd, show List.range (j + 1 + d) = List.range (j + 1) ++ (List.range d).map (j + 1 + ·) from List.range_add .., List.flatMap_append]
        exact List.prefix_append _ _)
      have HOS := Lib.hid (fun p => Lm.offR_snoc hlt p)
      clear hc
      generalize fs.getD j Lm.f0 = f at *
      generalize hoq : Lm.offR (fs.take j) f.path = oq at *
      obtain ⟨pa, st, ln⟩ := f
      simp only [Nat.add_zero] at *
      obtain ⟨f1, f2, f3, f4, f5⟩ := hf
      have hb0 : 0 ≤ Lm.blk ln := by unfold Lm.blk; omega
      obtain ⟨N, hN, hN2⟩ : ∃ N : Nat, (N : Int) = Lm.blk ln ∧ N ≤ 4096 := ⟨(Lm.blk ln).toNat, by omega, by omega⟩
      have hNn : (Lm.blk ln).toNat = N := by omega
      rw [hNn] at HUP
      have CB := Lib.hid (fun W => blocks_any ln (by omega) (by omega) W)
      rw [← hN] at CB
      have HOQ := Lib.hid hoq
      have HNB := Lib.hid hN
      have hob2 : oq ≤ 268435456 := by omega
      obtain ⟨hob1, _⟩ := hob
      clear hoq hNn hN
      clear hb0
      gi_wp2
      refine ⟨trivial, fun _ => by omega, ?_⟩
      refine (callsIn_wide.2 (CB.out _)).mono ?_
      rintro e w' ⟨rfl, rfl⟩
      gi_wp2
      have hbw2 := (Array.getElem?_eq_some_iff.1 HB2.out).1
      have HXF := Lib.hid (show (wo.alloc (.cells #[.string pa, .int .i64 st, .int .i64 ln] 41)).heap[wo.heap.size]? = some (.cells #[.string pa, .int .i64 st, .int .i64 ln] 41 (0, 0)) from heap_alloc_new wo _)
      have HJa := Lib.hid (HJ.out pre wo (wo.alloc (.cells #[.string pa, .int .i64 st, .int .i64 ln] 41)) none HJp.out (World.grownBy_alloc wo _ none) (fun r e => by cases e))
      have HAMa := Lib.hid (HAM.out.walk (W' := wo.alloc (.cells #[.string pa, .int .i64 st, .int .i64 ln] 41)) (fun ob ho _ => (Below.heap_alloc wo _ W.heap.size hsz).trans ho))
      have HBLa := Lib.hid (HBL.out.alloc (Nat.le_trans hn₀ (Nat.le_of_lt hsz)) (.cells #[.string pa, .int .i64 st, .int .i64 ln] 41))
      have HB2a := Lib.hid ((Below.heap_alloc wo (.cells #[.string pa, .int .i64 st, .int .i64 ln] 41) b2 hbw2).trans HB2.out)
      have HATa := Lib.hid (show Lm.AtIs D (fun p => Lm.offR (fs.take j) p + if p = pa then min (((0 : Nat) : Int) * 2048) ln else 0) from fun p => by
        rw [HAT.out p]
        congr 2
        simp only [Int.natCast_zero, Int.zero_mul]
        split <;> omega)
      clear q0 q1 q2 hbw2
      gi_loopw [7, 8, 9, 20] (fun _ _ _ iv wr => ∃ (i : Nat) (pre2 : List Lm.PB) (k2 : Nat) (D2 : DataW Unit), i ≤ N ∧ iv = .int .i64 i ∧ Hid (pre2.map (·.1) = Lm.upTo img fs j ++ (List.range i).map (Lm.pieceR img ⟨pa, st, ln⟩ oq)) ∧ Hid (J pre2 wr) ∧ Hid (Lm.AtMap wr W.heap.size k2 D2) ∧ k2 ≤ 4096 * j + i ∧ Hid (Lm.AtIs D2 (fun p => Lm.offR (fs.take j) p + if p = pa then min ((i : Int) * 2048) ln else 0)) ∧ Hid (Below n₀ W wr) ∧ wo.heap.size < wr.heap.size ∧ Hid (wr.heap[b2]? = some (.cells #[.slice A2 img.length c2'] 23 (0, 0))) ∧ Hid (wr.heap[wo.heap.size]? = some (.cells #[.string pa, .int .i64 st, .int .i64 ln] 41 (0, 0)))) (fun _ _ _ iv _ => N - (intOf iv).toNat)
      case atStart => exact ⟨0, pre, kk, D, Nat.zero_le _, rfl, Lib.hid (HPRE.out.trans (by simp)), HJa, HAMa, by omega, HATa, HBLa, by simp, HB2a, HXF⟩
      case round =>
        obtain ⟨i, pre2, k2, D2, hi, rfl, HPRE2, HJp2, HAM2, hk2, HAT2, HBL2, hsz2, HB22, HXF2⟩ := hrel
        by_cases hilt : i < N
        · have hib := (Lm.blk_iff f3 i).1 (by have := HNB.out; omega)
          have hilt' : (i : Int) < (N : Int) := by omega
          have hi64 : (i : Int) * 2048 < 262144 := by omega
          have p0 : wr.cell? ⟨wo.heap.size, 0, none⟩ = some (.string pa) := Lm.box_cell HXF2.out 0
          have p1 : wr.cell? ⟨wo.heap.size, 1, none⟩ = some (.int .i64 st) := Lm.box_cell HXF2.out 1
          have p2 : wr.cell? ⟨wo.heap.size, 2, none⟩ = some (.int .i64 ln) := Lm.box_cell HXF2.out 2
          have i2 : wr.cell? ⟨b2, 0, none⟩ = some (.slice A2 img.length c2') := Lm.box_cell HB22.out 0
          have hkey : keyOf Tryd.prog 9 (.string pa) = some (.string pa.data.toList) := Go.WideMaps.keyOf_string_mk Tryd.underlying9 (by unfold maxLen; omega)
          have HKEY := Lib.hid hkey
          have HPA := Lib.hid (show D2.atKey (.string pa.data.toList) (.lit (.int .i64 0)) = .lit (.int .i64 (oq + (i : Int) * 2048)) by
            rw [HAT2.out pa]
            simp only [if_true, HOQ.out]
            congr 3
            omega)
          clear hkey
          by_cases hin : st + (i : Int) < (img.length : Int)
          · have din : decide (st + (i : Int) < (img.length : Int)) = true := decide_eq_true hin
            have hkn : (st + (i : Int)).toNat < img.length := by omega
            obtain ⟨bn, hbn⟩ : ∃ bn : Nat, (bn : Int) = st + (i : Int) := ⟨(st + (i : Int)).toNat, by omega⟩
            have hbnn : (st + (i : Int)).toNat = bn := by omega
            obtain ⟨bg, bo, bc, hv2, hbl, hcell⟩ := Lm.Strs.cell (HM.out wr HBL2.out) hkn
            obtain ⟨rfl, _, rfl⟩ : A2 = some ⟨bg, bo, none⟩ ∧ img.length = img.length ∧ c2' = bc := by simpa using hv2
            clear hv2
            rw [hbnn] at hcell
            rw [← hbn] at din
            have hbnl : bn < img.length := hbnn ▸ hkn
            have HBN := Lib.hid hbn
            have tok1 : True := trivial
            gi_upto_region 8 with (gi_at_lookup; have _t := tok1; refine wpListIn_lookup_own_int _ rfl _ _ 91 rfl 9 3 .i64 (string_keyed Tryd.underlying9) Tryd.underlying91 Tryd.underlying3 (by kernel_rfl) W.heap.size k2 D2 rfl HAM2.out _ _ rfl HKEY.out ?_; intro c hat hwc; have hcc := Lm.lit_inj (HPA.out.symm.trans hat); clear tok1 hat hwc _t; subst hcc)
            obtain ⟨mm, hmm⟩ : ∃ mm : Int, min 2048 (ln - (i : Int) * 2048) = mm := ⟨_, rfl⟩
            rw [hmm]
            have hm1 : 1 ≤ mm ∧ mm ≤ 2048 := by omega
            have HMM := Lib.hid hmm
            clear hmm
            have hgq : wr.grownBy (wr.alloc (.cells #[.string pa, .int .i64 (oq + (i : Int) * 2048), .int .i64 mm, .string ⟨#[]⟩, .bool false] 61)) none := World.grownBy_alloc wr _ none
            have pq := Lm.newCells wr #[.string pa, .int .i64 (oq + (i : Int) * 2048), .int .i64 mm, .string ⟨#[]⟩, .bool false] 61
            have fz : ∀ q, (wr.alloc (.cells #[.string pa, .int .i64 (oq + (i : Int) * 2048), .int .i64 mm, .string ⟨#[]⟩, .bool false] 61)).frozen? ⟨wr.heap.size, q, none⟩ = false := fun q => World.frozen?_alloc_at _ _ _ _ rfl
            generalize hwq : wr.alloc (.cells #[.string pa, .int .i64 (oq + (i : Int) * 2048), .int .i64 mm, .string ⟨#[]⟩, .bool false] 61) = wq at *
            clear hwq
            have r2 := pq 2 _ rfl
            have i2' := hgq.cell i2 (fun e => by cases e)
            have p1' := hgq.cell p1 (fun e => by cases e)
            have s0' := hgq.cell hcell (fun e => by cases e)
            clear p0 p1 p2 i2 hcell
            generalize hsb : img.getD bn ⟨#[]⟩ = sb at *
            gi_upto_region 9 with (fail)
            rw [← hbn]
            clear hbn hin hkn hbnn
            by_cases h48 : sb.size = 2048
            · have dsz : decide ((sb.size : Int) = 2048) = true := decide_eq_true (by omega)
              gi_upto_region 10 with (fail)
              have c3' := pq 3 _ rfl
              have c4 := pq 4 _ rfl
              have fz3 := fz 3
              have fz4 := fz 4
              gi_region
              clear fz fz3 fz4 r2 i2' p1' s0' c3' c4
              have hgq2 : wr.grownBy (((wq.setCell ⟨wr.heap.size, 3, none⟩ (.string (sb.extract 0 mm.toNat))).setCell ⟨wr.heap.size, 4, none⟩ (.bool true)).drew) none := by
                refine ⟨?_, ?_, ?_, ?_, fun k hk _ => ?_⟩
                · exact hgq.os
                · exact hgq.tape
                · exact hgq.output
                · simpa using hgq.size
                · exact ((Below.heap_setCell _ _ _ k (Nat.ne_of_lt hk)).trans (Below.heap_setCell _ _ _ k (Nat.ne_of_lt hk))).trans (hgq.block k hk (fun e => by cases e))
              have pq2 : ∀ q u, #[Value.string pa, .int .i64 (oq + (i : Int) * 2048), .int .i64 mm, .string (sb.extract 0 mm.toNat), .bool true][q]? = some u → (((wq.setCell ⟨wr.heap.size, 3, none⟩ (.string (sb.extract 0 mm.toNat))).setCell ⟨wr.heap.size, 4, none⟩ (.bool true)).drew).cell? ⟨wr.heap.size, q, none⟩ = some u := by
                have k0 := pq 0 _ rfl
                have k1 := pq 1 _ rfl
                have k2' := pq 2 _ rfl
                have k3 := pq 3 _ rfl
                have k4 := pq 4 _ rfl
                have l0 := (World.cell?_setCell_other (w := wq) (a := ⟨wr.heap.size, 3, none⟩) (v := .string (sb.extract 0 mm.toNat)) (b := ⟨wr.heap.size, 0, none⟩) (by simp)).trans k0
                have l1 := (World.cell?_setCell_other (w := wq) (a := ⟨wr.heap.size, 3, none⟩) (v := .string (sb.extract 0 mm.toNat)) (b := ⟨wr.heap.size, 1, none⟩) (by simp)).trans k1
                have l2 := (World.cell?_setCell_other (w := wq) (a := ⟨wr.heap.size, 3, none⟩) (v := .string (sb.extract 0 mm.toNat)) (b := ⟨wr.heap.size, 2, none⟩) (by simp)).trans k2'
                have l3 := World.cell?_setCell_same wq ⟨wr.heap.size, 3, none⟩ (.string (sb.extract 0 mm.toNat)) k3
                have l4 := (World.cell?_setCell_other (w := wq) (a := ⟨wr.heap.size, 3, none⟩) (v := .string (sb.extract 0 mm.toNat)) (b := ⟨wr.heap.size, 4, none⟩) (by simp)).trans k4
                generalize wq.setCell ⟨wr.heap.size, 3, none⟩ (.string (sb.extract 0 mm.toNat)) = w3 at *
                intro q u hu
                rw [World.cell?_drew]
                match q, hu with
                | 0, hu => exact ((World.cell?_setCell_other (w := w3) (a := ⟨wr.heap.size, 4, none⟩) (v := .bool true) (b := ⟨wr.heap.size, 0, none⟩) (by simp)).trans l0).trans hu
                | 1, hu => exact ((World.cell?_setCell_other (w := w3) (a := ⟨wr.heap.size, 4, none⟩) (v := .bool true) (b := ⟨wr.heap.size, 1, none⟩) (by simp)).trans l1).trans hu
                | 2, hu => exact ((World.cell?_setCell_other (w := w3) (a := ⟨wr.heap.size, 4, none⟩) (v := .bool true) (b := ⟨wr.heap.size, 2, none⟩) (by simp)).trans l2).trans hu
                | 3, hu => exact ((World.cell?_setCell_other (w := w3) (a := ⟨wr.heap.size, 4, none⟩) (v := .bool true) (b := ⟨wr.heap.size, 3, none⟩) (by simp)).trans l3).trans hu
                | 4, hu => exact (World.cell?_setCell_same _ _ _ l4).trans hu
                | q + 5, hu => simp at hu
              have PE : Lm.pieceR img ⟨pa, st, ln⟩ oq i = ⟨pa, oq + (i : Int) * 2048, mm, sb.extract 0 mm.toNat, true⟩ := by
                have hr : Lm.readable img (st + i) = true := by
                  rw [← HBN.out]
                  unfold Lm.readable
                  rw [Int.toNat_natCast, hsb, din, decide_eq_true h48]
                  rfl
                simp only [Lm.pieceR, hr, HMM.out, if_true]
                rw [← HBN.out, Int.toNat_natCast, hsb]
              have hok : Lm.okP ⟨pa, oq + (i : Int) * 2048, mm, sb.extract 0 mm.toNat, true⟩ = true := by
                rw [Lm.okP_iff]
                exact ⟨hps, by dsimp only; omega, by dsimp only; omega, hm1.1, hm1.2, by simp only [ByteArray.size_extract]; omega⟩
              clear hgq pq
              generalize (((wq.setCell ⟨wr.heap.size, 3, none⟩ (.string (sb.extract 0 mm.toNat))).setCell ⟨wr.heap.size, 4, none⟩ (.bool true)).drew) = wq at *
              have hgq := hgq2
              have pq := pq2
              clear hgq2 pq2
              gi_upto_region 11 with (fail)
              have hsW : W.heap.size < wr.heap.size := by omega
              have HAM3 := Lib.hid (HAM2.out.walk (W' := wq) (fun ob ho _ => (hgq.block W.heap.size hsW (fun e => by cases e)).trans ho))
              have hsq := hgq.size
              have p0' : wq.cell? ⟨wo.heap.size, 0, none⟩ = some (.string pa) := hgq.cell (Lm.box_cell HXF2.out 0) (fun e => by cases e)
              have r2' : wq.cell? ⟨wr.heap.size, 2, none⟩ = some (.int .i64 mm) := pq 2 _ rfl
              have IM := Lib.hid (World.ownsMap.isMap HAM2.out)
              have tok2 : True := trivial
              have tok3 : True := trivial
              gi_upto_region 12 with (first
                | (gi_at_lookup; have _t := tok2; refine wpListIn_lookup_own_int _ rfl _ _ 91 rfl 9 3 .i64 (string_keyed Tryd.underlying9) Tryd.underlying91 Tryd.underlying3 (by kernel_rfl) W.heap.size k2 D2 rfl HAM3.out _ _ rfl HKEY.out ?_; intro c hat hwc; have hcc := Lm.lit_inj (HPA.out.symm.trans hat); clear tok2 hat hwc _t; subst hcc)
                | (gi_at_mapUpdate; have _t := tok3; refine wpListIn_mapUpdate_own _ rfl _ _ _ 91 rfl 9 3 (string_keyed Tryd.underlying9) Tryd.underlying91 _ W.heap.size k2 D2 rfl HAM3.out (by unfold maxLen; omega) _ _ (.string pa.data.toList) rfl rfl HKEY.out (.lit (.int .i64 (oq + (i : Int) * 2048 + mm))) [] (plainElem_int Tryd.underlying3 (WalkArith.wf_i64 (by omega))) ?_; intro w1 hown1 hgrow1; clear tok3 _t))
              have hgw : wr.grownBy w1 (some W.heap.size) := (show wr.grownBy wq (some W.heap.size) from hgq.but _).trans hgrow1
              have pq1 : ∀ q u, #[Value.string pa, .int .i64 (oq + (i : Int) * 2048), .int .i64 mm, .string (sb.extract 0 mm.toNat), .bool true][q]? = some u → w1.cell? ⟨wr.heap.size, q, none⟩ = some u := fun q u hu => hgrow1.cell (pq q u hu) (fun e => by have e' : wr.heap.size = W.heap.size := Option.some.inj e; omega)
              clear p0' r2'
              have hJ1 := HJ.out pre2 wr w1 (some W.heap.size) HJp2.out hgw (fun r e => by
                cases e
                obtain ⟨es, cl, h1, _⟩ := HAM2.out
                exact ⟨Nat.le_refl _, _, h1, rfl⟩)
              have hlen : pre2.length < (Lm.piecesR img fs).length := by
                have e1 := congrArg List.length HPRE2.out
                have e2 := HTOT.out.length_le
                rw [HUP.out] at e2
                simp only [List.length_map, List.length_append, List.length_range] at e1 e2
                omega
              have HPRE3 : Hid ((pre2 ++ [(⟨⟨pa, oq + (i : Int) * 2048, mm, (sb.extract 0 mm.toNat), true⟩, hok⟩ : Lm.PB)]).map (·.1) = Lm.upTo img fs j ++ (List.range (i + 1)).map (Lm.pieceR img ⟨pa, st, ln⟩ oq)) := Lib.hid (by
                rw [List.map_append, HPRE2.out, Lm.map_range_succ, ← List.append_assoc, PE]
                rfl)
              have HPF : Hid ((pre2 ++ [(⟨⟨pa, oq + (i : Int) * 2048, mm, (sb.extract 0 mm.toNat), true⟩, hok⟩ : Lm.PB)]).map (·.1) <+: Lm.piecesR img fs) := Lib.hid (by
                rw [HPRE3.out]
                refine List.IsPrefix.trans ?_ HTOT.out
                rw [HUP.out]
                exact Lm.range_pfx _ _ hilt)
              have HAT4 := Lib.hid (show Lm.AtIs (D2.put (.string pa.data.toList) (.lit (.int .i64 (oq + (i : Int) * 2048 + mm)))) (fun p => Lm.offR (fs.take j) p + if p = pa then min (((i + 1 : Nat) : Int) * 2048) ln else 0) from fun p => by
                rw [(HAT2.out.put IM.out pa (oq + (i : Int) * 2048 + mm)) p]
                by_cases hp : p = pa
                · subst hp
                  simp only [if_true, HOQ.out]
                  congr 2
                  have := HMM.out
                  omega
                · simp only [if_neg hp])
              have HB24 := Lib.hid (Lm.heap_grown hgw HB22.out (by omega))
              have HXF4 := Lib.hid (Lm.heap_grown hgw HXF2.out (by omega))
              have HBL4 := Lib.hid (HBL2.out.grown hgw (by omega) (fun k e => by cases e; omega))
              have hsz4 := hgw.size
              have HAM4 := Lib.hid (show Lm.AtMap w1 W.heap.size (k2 + 1) _ from hown1)
              obtain ⟨fn, tmps, assign, body, hy, hR⟩ := HY.out pre2 ⟨⟨pa, oq + (i : Int) * 2048, mm, (sb.extract 0 mm.toNat), true⟩, hok⟩ w1 hJ1 hlen
              dsimp only [Lm.pV] at hy
              have c0 := pq1 0 _ rfl
              have c1 := pq1 1 _ rfl
              have c2 := pq1 2 _ rfl
              have c3' := pq1 3 _ rfl
              have c4 := pq1 4 _ rfl
              clear pq pq1 hgq hgrow1 hown1
              gi_wp2
              refine ⟨fun _ => by omega, ?_⟩
              refine hR.mono ?_
              rintro e W3 (⟨rfl, hJ3, hk3⟩ | ⟨rfl, hJx3⟩)
              · gi_wp2
                have HJ5 := Lib.hid hJ3
                have HAM5 := Lib.hid (HAM4.out.walk (W' := W3) (fun ob ho hw => hk3.walks _ _ hBW ho hw))
                have HBL5 := Lib.hid (HBL4.out.trans hk3.bel)
                have hsz5 := hk3.size
                have HB25 := Lib.hid (hk3.boxes _ _ _ rfl HB24.out)
                have HXF5 := Lib.hid (hk3.boxes _ _ _ rfl HXF4.out)
                clear hk3 hJ3
                go_roundw
                case rel => exact ⟨i + 1, _, k2 + 1, _, by omega, by go_num, HPRE3, HJ5, HAM5, by omega, HAT4, HBL5, by omega, HB25, HXF5⟩
                case measure => simp [intOf]; omega
              · gi_wp2
                refine bodyPost_ret (results_none rfl _ _ _) rfl ?_
                exact ⟨⟨_, rfl⟩, .inr ⟨_, HPF.out, hJx3⟩⟩
            · have dsz : decide ((sb.size : Int) = 2048) = false := decide_eq_false (by omega)
              have e3 : ((sb.size : Int) == 2048) = false := by rw [beq_eq_false_iff_ne]; omega
              have H48 := Lib.hid h48
              clear h48 dsz
              gi_upto_region 11 with (fail)
              have h48 := H48.out
              have hok : Lm.okP ⟨pa, oq + (i : Int) * 2048, mm, ⟨#[]⟩, false⟩ = true := by
                rw [Lm.okP_iff]
                exact ⟨hps, by dsimp only; omega, by dsimp only; omega, hm1.1, hm1.2, show (0 : Nat) ≤ 2048 by decide⟩
              have PE : Lm.pieceR img ⟨pa, st, ln⟩ oq i = ⟨pa, oq + (i : Int) * 2048, mm, ⟨#[]⟩, false⟩ := by
                have hr : Lm.readable img (st + i) = false := by
                  rw [← HBN.out]
                  unfold Lm.readable
                  rw [Int.toNat_natCast, hsb, decide_eq_false h48, Bool.and_false]
                simp only [Lm.pieceR, hr, HMM.out, Bool.false_eq_true, if_false]
              have hsW : W.heap.size < wr.heap.size := by omega
              have HAM3 := Lib.hid (HAM2.out.walk (W' := wq) (fun ob ho _ => (hgq.block W.heap.size hsW (fun e => by cases e)).trans ho))
              have hsq := hgq.size
              have p0' : wq.cell? ⟨wo.heap.size, 0, none⟩ = some (.string pa) := hgq.cell (Lm.box_cell HXF2.out 0) (fun e => by cases e)
              have r2' : wq.cell? ⟨wr.heap.size, 2, none⟩ = some (.int .i64 mm) := pq 2 _ rfl
              have IM := Lib.hid (World.ownsMap.isMap HAM2.out)
              have tok2 : True := trivial
              have tok3 : True := trivial
              gi_upto_region 12 with (first
                | (gi_at_lookup; have _t := tok2; refine wpListIn_lookup_own_int _ rfl _ _ 91 rfl 9 3 .i64 (string_keyed Tryd.underlying9) Tryd.underlying91 Tryd.underlying3 (by kernel_rfl) W.heap.size k2 D2 rfl HAM3.out _ _ rfl HKEY.out ?_; intro c hat hwc; have hcc := Lm.lit_inj (HPA.out.symm.trans hat); clear tok2 hat hwc _t; subst hcc)
                | (gi_at_mapUpdate; have _t := tok3; refine wpListIn_mapUpdate_own _ rfl _ _ _ 91 rfl 9 3 (string_keyed Tryd.underlying9) Tryd.underlying91 _ W.heap.size k2 D2 rfl HAM3.out (by unfold maxLen; omega) _ _ (.string pa.data.toList) rfl rfl HKEY.out (.lit (.int .i64 (oq + (i : Int) * 2048 + mm))) [] (plainElem_int Tryd.underlying3 (WalkArith.wf_i64 (by omega))) ?_; intro w1 hown1 hgrow1; clear tok3 _t))
              have hgw : wr.grownBy w1 (some W.heap.size) := (show wr.grownBy wq (some W.heap.size) from hgq.but _).trans hgrow1
              have pq1 : ∀ q u, #[Value.string pa, .int .i64 (oq + (i : Int) * 2048), .int .i64 mm, .string (⟨#[]⟩ : ByteArray), .bool false][q]? = some u → w1.cell? ⟨wr.heap.size, q, none⟩ = some u := fun q u hu => hgrow1.cell (pq q u hu) (fun e => by have e' : wr.heap.size = W.heap.size := Option.some.inj e; omega)
              clear p0' r2'
              have hJ1 := HJ.out pre2 wr w1 (some W.heap.size) HJp2.out hgw (fun r e => by
                cases e
                obtain ⟨es, cl, h1, _⟩ := HAM2.out
                exact ⟨Nat.le_refl _, _, h1, rfl⟩)
              have hlen : pre2.length < (Lm.piecesR img fs).length := by
                have e1 := congrArg List.length HPRE2.out
                have e2 := HTOT.out.length_le
                rw [HUP.out] at e2
                simp only [List.length_map, List.length_append, List.length_range] at e1 e2
                omega
              have HPRE3 : Hid ((pre2 ++ [(⟨⟨pa, oq + (i : Int) * 2048, mm, (⟨#[]⟩ : ByteArray), false⟩, hok⟩ : Lm.PB)]).map (·.1) = Lm.upTo img fs j ++ (List.range (i + 1)).map (Lm.pieceR img ⟨pa, st, ln⟩ oq)) := Lib.hid (by
                rw [List.map_append, HPRE2.out, Lm.map_range_succ, ← List.append_assoc, PE]
                rfl)
              have HPF : Hid ((pre2 ++ [(⟨⟨pa, oq + (i : Int) * 2048, mm, (⟨#[]⟩ : ByteArray), false⟩, hok⟩ : Lm.PB)]).map (·.1) <+: Lm.piecesR img fs) := Lib.hid (by
                rw [HPRE3.out]
                refine List.IsPrefix.trans ?_ HTOT.out
                rw [HUP.out]
                exact Lm.range_pfx _ _ hilt)
              have HAT4 := Lib.hid (show Lm.AtIs (D2.put (.string pa.data.toList) (.lit (.int .i64 (oq + (i : Int) * 2048 + mm)))) (fun p => Lm.offR (fs.take j) p + if p = pa then min (((i + 1 : Nat) : Int) * 2048) ln else 0) from fun p => by
                rw [(HAT2.out.put IM.out pa (oq + (i : Int) * 2048 + mm)) p]
                by_cases hp : p = pa
                · subst hp
                  simp only [if_true, HOQ.out]
                  congr 2
                  have := HMM.out
                  omega
                · simp only [if_neg hp])
              have HB24 := Lib.hid (Lm.heap_grown hgw HB22.out (by omega))
              have HXF4 := Lib.hid (Lm.heap_grown hgw HXF2.out (by omega))
              have HBL4 := Lib.hid (HBL2.out.grown hgw (by omega) (fun k e => by cases e; omega))
              have hsz4 := hgw.size
              have HAM4 := Lib.hid (show Lm.AtMap w1 W.heap.size (k2 + 1) _ from hown1)
              obtain ⟨fn, tmps, assign, body, hy, hR⟩ := HY.out pre2 ⟨⟨pa, oq + (i : Int) * 2048, mm, (⟨#[]⟩ : ByteArray), false⟩, hok⟩ w1 hJ1 hlen
              dsimp only [Lm.pV] at hy
              have c0 := pq1 0 _ rfl
              have c1 := pq1 1 _ rfl
              have c2 := pq1 2 _ rfl
              have c3' := pq1 3 _ rfl
              have c4 := pq1 4 _ rfl
              clear pq pq1 hgq hgrow1 hown1
              gi_wp2
              refine ⟨fun _ => by omega, ?_⟩
              refine hR.mono ?_
              rintro e W3 (⟨rfl, hJ3, hk3⟩ | ⟨rfl, hJx3⟩)
              · gi_wp2
                have HJ5 := Lib.hid hJ3
                have HAM5 := Lib.hid (HAM4.out.walk (W' := W3) (fun ob ho hw => hk3.walks _ _ hBW ho hw))
                have HBL5 := Lib.hid (HBL4.out.trans hk3.bel)
                have hsz5 := hk3.size
                have HB25 := Lib.hid (hk3.boxes _ _ _ rfl HB24.out)
                have HXF5 := Lib.hid (hk3.boxes _ _ _ rfl HXF4.out)
                clear hk3 hJ3
                go_roundw
                case rel => exact ⟨i + 1, _, k2 + 1, _, by omega, by go_num, HPRE3, HJ5, HAM5, by omega, HAT4, HBL5, by omega, HB25, HXF5⟩
                case measure => simp [intOf]; omega
              · gi_wp2
                refine bodyPost_ret (results_none rfl _ _ _) rfl ?_
                exact ⟨⟨_, rfl⟩, .inr ⟨_, HPF.out, hJx3⟩⟩
          · have din : decide (st + (i : Int) < (img.length : Int)) = false := decide_eq_false hin
            have tok1 : True := trivial
            gi_upto_region 8 with (gi_at_lookup; have _t := tok1; refine wpListIn_lookup_own_int _ rfl _ _ 91 rfl 9 3 .i64 (string_keyed Tryd.underlying9) Tryd.underlying91 Tryd.underlying3 (by kernel_rfl) W.heap.size k2 D2 rfl HAM2.out _ _ rfl HKEY.out ?_; intro c hat hwc; have hcc := Lm.lit_inj (HPA.out.symm.trans hat); clear tok1 hat hwc _t; subst hcc)
            obtain ⟨mm, hmm⟩ : ∃ mm : Int, min 2048 (ln - (i : Int) * 2048) = mm := ⟨_, rfl⟩
            rw [hmm]
            have hm1 : 1 ≤ mm ∧ mm ≤ 2048 := by omega
            have HMM := Lib.hid hmm
            clear hmm
            have r2 := Lm.newCells wr #[.string pa, .int .i64 (oq + (i : Int) * 2048), .int .i64 mm, .string ⟨#[]⟩, .bool false] 61 2 _ rfl
            have i2' := ((Below.refl wr.heap.size wr).alloc (Nat.le_refl _) (.cells #[.string pa, .int .i64 (oq + (i : Int) * 2048), .int .i64 mm, .string ⟨#[]⟩, .bool false] 61)).cell (p := ⟨b2, 0, none⟩) (World.block_lt_of_cell? _ _ i2) |>.trans i2
            have p1' := ((Below.refl wr.heap.size wr).alloc (Nat.le_refl _) (.cells #[.string pa, .int .i64 (oq + (i : Int) * 2048), .int .i64 mm, .string ⟨#[]⟩, .bool false] 61)).cell (p := ⟨wo.heap.size, 1, none⟩) hsz2 |>.trans p1
            have p0' := ((Below.refl wr.heap.size wr).alloc (Nat.le_refl _) (.cells #[.string pa, .int .i64 (oq + (i : Int) * 2048), .int .i64 mm, .string ⟨#[]⟩, .bool false] 61)).cell (p := ⟨wo.heap.size, 0, none⟩) hsz2 |>.trans p0
            clear p0 p1 p2 i2
            gi_upto_region 11 with (fail)
            have hgq : wr.grownBy (wr.alloc (.cells #[.string pa, .int .i64 (oq + (i : Int) * 2048), .int .i64 mm, .string ⟨#[]⟩, .bool false] 61)) none := World.grownBy_alloc wr _ none
            have pq := Lm.newCells wr #[.string pa, .int .i64 (oq + (i : Int) * 2048), .int .i64 mm, .string ⟨#[]⟩, .bool false] 61
            have PE : Lm.pieceR img ⟨pa, st, ln⟩ oq i = ⟨pa, oq + (i : Int) * 2048, mm, ⟨#[]⟩, false⟩ := by
              have hr : Lm.readable img (st + i) = false := by simp [Lm.readable, hin]
              simp only [Lm.pieceR, hr, HMM.out, Bool.false_eq_true, if_false]
            have hok : Lm.okP ⟨pa, oq + (i : Int) * 2048, mm, ⟨#[]⟩, false⟩ = true := by
              rw [Lm.okP_iff]
              exact ⟨hps, by dsimp only; omega, by dsimp only; omega, hm1.1, hm1.2, show (0 : Nat) ≤ 2048 by decide⟩
            clear i2' p1' r2 din hin
            generalize wr.alloc (.cells #[.string pa, .int .i64 (oq + (i : Int) * 2048), .int .i64 mm, .string ⟨#[]⟩, .bool false] 61) = wq at *
            have hsW : W.heap.size < wr.heap.size := by omega
            have HAM3 := Lib.hid (HAM2.out.walk (W' := wq) (fun ob ho _ => (hgq.block W.heap.size hsW (fun e => by cases e)).trans ho))
            have hsq := hgq.size
            have p0' : wq.cell? ⟨wo.heap.size, 0, none⟩ = some (.string pa) := hgq.cell (Lm.box_cell HXF2.out 0) (fun e => by cases e)
            have r2' : wq.cell? ⟨wr.heap.size, 2, none⟩ = some (.int .i64 mm) := pq 2 _ rfl
            have IM := Lib.hid (World.ownsMap.isMap HAM2.out)
            have tok2 : True := trivial
            have tok3 : True := trivial
            gi_upto_region 12 with (first
              | (gi_at_lookup; have _t := tok2; refine wpListIn_lookup_own_int _ rfl _ _ 91 rfl 9 3 .i64 (string_keyed Tryd.underlying9) Tryd.underlying91 Tryd.underlying3 (by kernel_rfl) W.heap.size k2 D2 rfl HAM3.out _ _ rfl HKEY.out ?_; intro c hat hwc; have hcc := Lm.lit_inj (HPA.out.symm.trans hat); clear tok2 hat hwc _t; subst hcc)
              | (gi_at_mapUpdate; have _t := tok3; refine wpListIn_mapUpdate_own _ rfl _ _ _ 91 rfl 9 3 (string_keyed Tryd.underlying9) Tryd.underlying91 _ W.heap.size k2 D2 rfl HAM3.out (by unfold maxLen; omega) _ _ (.string pa.data.toList) rfl rfl HKEY.out (.lit (.int .i64 (oq + (i : Int) * 2048 + mm))) [] (plainElem_int Tryd.underlying3 (WalkArith.wf_i64 (by omega))) ?_; intro w1 hown1 hgrow1; clear tok3 _t))
            have hgw : wr.grownBy w1 (some W.heap.size) := (show wr.grownBy wq (some W.heap.size) from hgq.but _).trans hgrow1
            have pq1 : ∀ q u, #[Value.string pa, .int .i64 (oq + (i : Int) * 2048), .int .i64 mm, .string (⟨#[]⟩ : ByteArray), .bool false][q]? = some u → w1.cell? ⟨wr.heap.size, q, none⟩ = some u := fun q u hu => hgrow1.cell (pq q u hu) (fun e => by have e' : wr.heap.size = W.heap.size := Option.some.inj e; omega)
            clear p0' r2'
            have hJ1 := HJ.out pre2 wr w1 (some W.heap.size) HJp2.out hgw (fun r e => by
              cases e
              obtain ⟨es, cl, h1, _⟩ := HAM2.out
              exact ⟨Nat.le_refl _, _, h1, rfl⟩)
            have hlen : pre2.length < (Lm.piecesR img fs).length := by
              have e1 := congrArg List.length HPRE2.out
              have e2 := HTOT.out.length_le
              rw [HUP.out] at e2
              simp only [List.length_map, List.length_append, List.length_range] at e1 e2
              omega
            have HPRE3 : Hid ((pre2 ++ [(⟨⟨pa, oq + (i : Int) * 2048, mm, (⟨#[]⟩ : ByteArray), false⟩, hok⟩ : Lm.PB)]).map (·.1) = Lm.upTo img fs j ++ (List.range (i + 1)).map (Lm.pieceR img ⟨pa, st, ln⟩ oq)) := Lib.hid (by
              rw [List.map_append, HPRE2.out, Lm.map_range_succ, ← List.append_assoc, PE]
              rfl)
            have HPF : Hid ((pre2 ++ [(⟨⟨pa, oq + (i : Int) * 2048, mm, (⟨#[]⟩ : ByteArray), false⟩, hok⟩ : Lm.PB)]).map (·.1) <+: Lm.piecesR img fs) := Lib.hid (by
              rw [HPRE3.out]
              refine List.IsPrefix.trans ?_ HTOT.out
              rw [HUP.out]
              exact Lm.range_pfx _ _ hilt)
            have HAT4 := Lib.hid (show Lm.AtIs (D2.put (.string pa.data.toList) (.lit (.int .i64 (oq + (i : Int) * 2048 + mm)))) (fun p => Lm.offR (fs.take j) p + if p = pa then min (((i + 1 : Nat) : Int) * 2048) ln else 0) from fun p => by
              rw [(HAT2.out.put IM.out pa (oq + (i : Int) * 2048 + mm)) p]
              by_cases hp : p = pa
              · subst hp
                simp only [if_true, HOQ.out]
                congr 2
                have := HMM.out
                omega
              · simp only [if_neg hp])
            have HB24 := Lib.hid (Lm.heap_grown hgw HB22.out (by omega))
            have HXF4 := Lib.hid (Lm.heap_grown hgw HXF2.out (by omega))
            have HBL4 := Lib.hid (HBL2.out.grown hgw (by omega) (fun k e => by cases e; omega))
            have hsz4 := hgw.size
            have HAM4 := Lib.hid (show Lm.AtMap w1 W.heap.size (k2 + 1) _ from hown1)
            obtain ⟨fn, tmps, assign, body, hy, hR⟩ := HY.out pre2 ⟨⟨pa, oq + (i : Int) * 2048, mm, (⟨#[]⟩ : ByteArray), false⟩, hok⟩ w1 hJ1 hlen
            dsimp only [Lm.pV] at hy
            have c0 := pq1 0 _ rfl
            have c1 := pq1 1 _ rfl
            have c2 := pq1 2 _ rfl
            have c3' := pq1 3 _ rfl
            have c4 := pq1 4 _ rfl
            clear pq pq1 hgq hgrow1 hown1
            gi_wp2
            refine ⟨fun _ => by omega, ?_⟩
            refine hR.mono ?_
            rintro e W3 (⟨rfl, hJ3, hk3⟩ | ⟨rfl, hJx3⟩)
            · gi_wp2
              have HJ5 := Lib.hid hJ3
              have HAM5 := Lib.hid (HAM4.out.walk (W' := W3) (fun ob ho hw => hk3.walks _ _ hBW ho hw))
              have HBL5 := Lib.hid (HBL4.out.trans hk3.bel)
              have hsz5 := hk3.size
              have HB25 := Lib.hid (hk3.boxes _ _ _ rfl HB24.out)
              have HXF5 := Lib.hid (hk3.boxes _ _ _ rfl HXF4.out)
              clear hk3 hJ3
              go_roundw
              case rel => exact ⟨i + 1, _, k2 + 1, _, by omega, by go_num, HPRE3, HJ5, HAM5, by omega, HAT4, HBL5, by omega, HB25, HXF5⟩
              case measure => simp [intOf]; omega
            · gi_wp2
              refine bodyPost_ret (results_none rfl _ _ _) rfl ?_
              exact ⟨⟨_, rfl⟩, .inr ⟨_, HPF.out, hJx3⟩⟩
        · obtain rfl : i = N := by omega
          have hend := Lm.blk_end f3 i HNB.out
          have HPN := Lib.hid (HPRE2.out.trans HUP.out.symm)
          have HATN := Lib.hid (show Lm.AtIs D2 (Lm.offR (fs.take (j + 1))) from fun p => by
            rw [HAT2.out p, HOS.out p]
            simp only [hend])
          clear hend
          gi_wp2
          go_roundw
          case rel => exact ⟨j + 1, pre2, k2, D2, by omega, by go_num, HPN, HJp2, HAM2, by omega, HATN, HBL2, by omega, HB22⟩
          case measure => simp [intOf]; omega
    · obtain rfl : j = fs.length := by omega
      gi_wp2
      go_end0
      exact ⟨⟨_, rfl⟩, .inl ⟨pre, HPRE.out, HJp.out⟩⟩
end Go.Proofs.YtlhechlbmbjffaaDoor
