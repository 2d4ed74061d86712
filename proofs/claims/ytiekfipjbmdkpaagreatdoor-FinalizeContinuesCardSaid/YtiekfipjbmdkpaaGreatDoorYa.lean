/-
  Writes as rows; the iterator of their addresses.
-/
import Derived.RangeFuncNested
import Derived.RangeFuncBound
import Derived.RangeFuncCalls
import Derived.RangeFuncLeaves
import Derived.RangeFuncBox
import Derived.Shelf.Abstract
import Derived.Shelf.RegionOpen
import Derived.OwnWalkIn
import Derived.TacticsInMore
import Derived.LoopNIn
import Derived.LoopIn
import Derived.Maps.OwnIn
import Derived.StringKeys
import Derived.BigRegionIn
import Derived.Sort.CutIn
import Derived.Test.YtiekfipjbmdkpaaGreatDoorFe
namespace Go.Proofs.YtiekfipjbmdkpaaGreatDoor
open Go.RowKit Go.Shelf Go.Maps
attribute [local go_sem] Oper.semAt_some
namespace Fi
/-- A write: where, how many blocks. -/
structure Wr where
  pos : Int
  row : Option Addr
  n : Nat
  cap : Nat
  sync : Bool
  close : Bool
def wr0 : Wr := ⟨0, none, 0, 0, false, false⟩
def wrC (x : Wr) : List Value := [.int .i64 x.pos, .slice x.row x.n x.cap, .bool x.sync, .bool x.close]
abbrev Wrs (w : World) (v : Value) (l : List Wr) : Prop := Kit.RowN w v 4 l.length (fun j => wrC (l.getD j wr0))
def adr (x : Wr) (i : Nat) : Int := x.pos + i
/-- The addresses of the first j writes. -/
def adrTo (l : List Wr) (j : Nat) : List Int := (List.range j).flatMap fun k => (List.range (l.getD k wr0).n).map (adr (l.getD k wr0))
def adrs (l : List Wr) : List Int := adrTo l l.length
theorem adrTo_succ (l : List Wr) (j : Nat) : adrTo l (j + 1) = adrTo l j ++ (List.range (l.getD j wr0).n).map (adr (l.getD j wr0)) := by
  unfold adrTo
  rw [List.range_succ, List.flatMap_append]
  simp
/-- Writes lie on a disc. -/
def okW (x : Wr) : Prop := 0 ≤ x.pos ∧ x.pos + x.n ≤ 8192
/-- An address. -/
abbrev AB := { x : Int // 0 ≤ x ∧ x ≤ 8192 }
/-- The types of the iterator's own variables. -/
def own2 (T : TypeId) : Bool := T == 37 || T == 32
/-- What a round that goes on keeps: what lay below n₀, the iterator's variables. -/
structure Kp (n₀ : Nat) (W W' : World) : Prop where
  bel : Below n₀ W W'
  size : W.heap.size ≤ W'.heap.size
  boxes : ∀ (k : Nat) (cs : Array Value) (T : TypeId), own2 T = true → W.heap[k]? = some (.cells cs T (0, 0)) → W'.heap[k]? = some (.cells cs T (0, 0))
theorem Kp.trans {n₀ : Nat} {X Y Z : World} (h : Kp n₀ X Y) (k : Kp n₀ Y Z) : Kp n₀ X Z :=
  ⟨h.bel.trans k.bel, Nat.le_trans h.size k.size, fun i cs T hT hi => k.boxes i cs T hT (h.boxes i cs T hT hi)⟩
theorem Kp.refl (n₀ : Nat) (W : World) : Kp n₀ W W := ⟨Below.refl n₀ W, Nat.le_refl _, fun _ _ _ _ h => h⟩
theorem Kp.putObj {n₀ : Nat} {w : World} (hn : n₀ ≤ w.heap.size) (W : World) (l : Nat) (o o' : Obj) (hl : w.heap.size ≤ l) (h : W.heap[l]? = some o) (hc : o.isCells = false) (hw : o.isWalk = false) : Kp n₀ W (W.putObj l o') := by
  have hb : ∀ k, k ≠ l → (W.putObj l o').heap[k]? = W.heap[k]? := fun k hk => by
    have hg := grownBy_putObj' W l o'
    by_cases hk2 : k < W.heap.size
    · exact hg.block k hk2 (fun e => hk (Option.some.inj e))
    · have h1 : W.heap[k]? = none := Array.getElem?_eq_none (by omega)
      have h2 : (W.putObj l o').heap[k]? = none := Array.getElem?_eq_none (by simp [World.putObj]; omega)
      rw [h1, h2]
  refine ⟨belowK_b hn W l o o' hl h hc hw, (grownBy_putObj' W l o').size, fun k cs T _ hk => ?_⟩
  by_cases hkl : k = l
  · subst hkl
    rw [h] at hk
    cases hk
    cases hc
  · exact (hb k hkl).trans hk
theorem box_cell {W : World} {g : Nat} {cs : Array Value} {T : TypeId} (h : W.heap[g]? = some (.cells cs T (0, 0))) (q : Nat) : W.cell? ⟨g, q, none⟩ = cs[q]? := cell_of_row W g q cs T (0, 0) h
theorem range_pfx {α : Type} (g : Nat → α) (a : List α) {i N : Nat} (h : i < N) : a ++ (List.range (i + 1)).map g <+: a ++ (List.range N).map g := by
  rw [List.prefix_append_right_inj]
  obtain ⟨d, rfl⟩ : ∃ d, N = (i + 1) + d := ⟨N - (i + 1), by omega⟩
  rw [show List.range (i + 1 + d) = List.range (i + 1) ++ (List.range d).map (i + 1 + ·) from List.range_add .., List.map_append]
  exact List.prefix_append _ _
theorem adrTo_pfx (l : List Wr) {j : Nat} (h : j ≤ l.length) : adrTo l j <+: adrs l := by
  unfold adrs adrTo
  obtain ⟨d, hd⟩ : ∃ d, l.length = j + d := ⟨l.length - j, by omega⟩
  rw [hd, show List.range (j + d) = List.range j ++ (List.range d).map (j + ·) from List.range_add .., List.flatMap_append]
  exact List.prefix_append _ _
theorem row4 {w : World} {v : Value} {l : List Wr} (h : Wrs w v l) {j : Nat} (hj : j < l.length) : ∃ b o c, v = .slice (some ⟨b, o, none⟩) l.length c ∧ b < w.heap.size ∧
    w.cell? ⟨b, o + j * 4, none⟩ = some (.int .i64 (l.getD j wr0).pos) ∧ w.cell? ⟨b, o + j * 4 + 1, none⟩ = some (.slice (l.getD j wr0).row (l.getD j wr0).n (l.getD j wr0).cap) ∧
    w.cell? ⟨b, o + j * 4 + 2, none⟩ = some (.bool (l.getD j wr0).sync) ∧ w.cell? ⟨b, o + j * 4 + 3, none⟩ = some (.bool (l.getD j wr0).close) := by
  obtain ⟨A, c, rfl, _, _, h3⟩ := h
  obtain ⟨b, o, rfl, hb, hc⟩ := h3 (by omega)
  exact ⟨b, o, c, rfl, hb, hc j hj 0 _ rfl, hc j hj 1 _ rfl, hc j hj 2 _ rfl, hc j hj 3 _ rfl⟩
end Fi

set_option maxHeartbeats 12800000 in
set_option maxRecDepth 100000 in
/-- addresses$1. -/
theorem addr1_in (n : Nat) (hn : 2 ≤ n) (l n₀ b2 : Nat) (v : Value) (ws : List Fi.Wr) (J Jx : List Fi.AB → World → Prop) (W : World) (hn₀ : n₀ ≤ W.heap.size)
    (hJ : AbidesFrom W.heap.size J)
    (hY : ∀ pre x W1, J pre W1 → pre.length < (Fi.adrs ws).length → YieldAt Fence.wide (n - 1) Tryz.prog l #[.int .i64 x.1] W1 fun e W' =>
      (e = .returned (.bool true) ∧ J (pre ++ [x]) W' ∧ Fi.Kp n₀ W1 W') ∨ (e = .returned (.bool false) ∧ Jx (pre ++ [x]) W'))
    (hx : W.heap[b2]? = some (.cells #[v] 32 (0, 0))) (hw : ∀ W', Below n₀ W W' → Fi.Wrs W' v ws) (hok : ∀ j, j < ws.length → Fi.okW (ws.getD j Fi.wr0)) (h0 : J [] W) :
    CallsIn Fence.wide n Tryz.prog 44 #[.func (.yield l) #[] #[], .pointer (some ⟨b2, 0, none⟩)] W fun e W' => (∃ v, e = .returned v) ∧
      ((∃ ys : List Fi.AB, ys.map (·.1) = Fi.adrs ws ∧ J ys W') ∨ (∃ pre : List Fi.AB, pre.map (·.1) <+: Fi.adrs ws ∧ Jx pre W')) := by
  have HW := Lib.hid hw
  have HY := Lib.hid hY
  have HJ := Lib.hid hJ
  have HOK := Lib.hid hok
  have hc2 : W.cell? ⟨b2, 0, none⟩ = some v := Fi.box_cell hx 0
  have HX := Lib.hid hx
  have H0 := Lib.hid h0
  obtain ⟨A, c, rfl, hl, hm, _⟩ := hw W (Below.refl _ _)
  unfold maxLen at hm
  clear hw hY hJ hok hx h0
  refine callsIn_of_wp Tryz.func44 rfl trivial ?_ rfl
  simp only [Tryz.ntmps44, List.size_toArray, List.length_cons, List.length_nil, Nat.reduceAdd, Nat.reduceSub, Array.replicate_succ, Array.replicate_zero, List.push_toArray, List.append_toArray, List.nil_append, List.cons_append]
  gi_wp2
  clear hc2
  gi_loopw [4, 5, 8, 15] (fun _ _ iv _ wr => ∃ (j : Nat) (pre : List Fi.AB), j ≤ ws.length ∧ iv = .int .i64 j ∧ Hid (pre.map (·.1) = Fi.adrTo ws j) ∧ Hid (J pre wr) ∧ Hid (Below n₀ W wr) ∧ W.heap.size ≤ wr.heap.size ∧ Hid (wr.heap[b2]? = some (.cells #[.slice A ws.length c] 32 (0, 0)))) (fun _ _ iv _ _ => ws.length - (intOf iv).toNat)
  case atStart => exact ⟨0, [], Nat.zero_le _, rfl, Lib.hid rfl, H0, Lib.hid (Below.refl _ _), Nat.le_refl _, HX⟩
  case round =>
    obtain ⟨j, pre, hj, rfl, HPRE, HJp, HBL, hsz, HB2⟩ := hrel
    obtain ⟨wo, rfl⟩ : ∃ wo : World, wo = wr := ⟨_, rfl⟩
    by_cases hlt : j < ws.length
    · obtain ⟨g, o, c', hv, hgl, q0, q1, q2, q3⟩ := Fi.row4 (HW.out wo HBL.out) hlt
      obtain ⟨rfl, _, rfl⟩ : A = some ⟨g, o, none⟩ ∧ ws.length = ws.length ∧ c = c' := by simpa using hv
      clear hv
      have hok := HOK.out j hlt
      have HUP := Lib.hid (Fi.adrTo_succ ws j)
      have HTOT := Lib.hid (Fi.adrTo_pfx ws (j := j + 1) (by omega))
      generalize ws.getD j Fi.wr0 = x at *
      obtain ⟨x0, x1, x2, x3, x4, x5⟩ := x
      simp only [] at *
      obtain ⟨hx0, hx1⟩ := hok
      simp only [] at hx0 hx1
      have hgw := World.grownBy_alloc wo (.cells #[.int .i64 x0, .slice x1 x2 x3, .bool x4, .bool x5] 37) none
      have HJ1 := Lib.hid (HJ.out pre _ _ none HJp.out hgw (fun r e => by cases e))
      have HBL1 := Lib.hid (HBL.out.alloc (by omega) (.cells #[.int .i64 x0, .slice x1 x2 x3, .bool x4, .bool x5] 37))
      have HB21 := Lib.hid ((Below.heap_alloc wo (.cells #[.int .i64 x0, .slice x1 x2 x3, .bool x4, .bool x5] 37) b2 (Array.getElem?_eq_some_iff.1 HB2.out).1).trans HB2.out)
      have HXW := Lib.hid (World.alloc_heap_new wo (.cells #[.int .i64 x0, .slice x1 x2 x3, .bool x4, .bool x5] 37))
      have hs1 : (wo.alloc (.cells #[.int .i64 x0, .slice x1 x2 x3, .bool x4, .bool x5] 37)).heap.size = wo.heap.size + 1 := by simp
      clear hgw hgl
      gi_wp2
      clear q0 q1 q2 q3
      generalize hwn : wo.alloc (.cells #[.int .i64 x0, .slice x1 x2 x3, .bool x4, .bool x5] 37) = wn at *
      clear hwn
      gi_loopw [5, 15] (fun _ iv wr => ∃ (i : Nat) (pre2 : List Fi.AB), i ≤ x2 ∧ iv = .int .i64 i ∧ Hid (pre2.map (·.1) = Fi.adrTo ws j ++ (List.range i).map (Fi.adr ⟨x0, x1, x2, x3, x4, x5⟩)) ∧ Hid (J pre2 wr) ∧ Hid (Below n₀ W wr) ∧ W.heap.size ≤ wr.heap.size ∧ Hid (wr.heap[b2]? = some (.cells #[.slice (some ⟨g, o, none⟩) ws.length c] 32 (0, 0))) ∧ Hid (wr.heap[wo.heap.size]? = some (.cells #[.int .i64 x0, .slice x1 x2 x3, .bool x4, .bool x5] 37 (0, 0)))) (fun _ iv _ => x2 - (intOf iv).toNat)
      case atStart => exact ⟨0, pre, Nat.zero_le _, rfl, Lib.hid (by rw [HPRE.out]; simp), HJ1, HBL1, by omega, HB21, HXW⟩
      case round =>
        obtain ⟨i, pre2, hi, rfl, HPRE2, HJp2, HBL2, hsz2, HB22, HXW2⟩ := hrel
        by_cases hil : i < x2
        · have c0 : wr.cell? ⟨wo.heap.size, 0, none⟩ = some (.int .i64 x0) := Fi.box_cell HXW2.out 0
          have hw64 := IntWalk.wrap64_in (x0 + (i : Int)) (by omega)
          have d0 : decide ((i : Int) < (x2 : Int)) = true := decide_eq_true (by omega)
          have HPF := Lib.hid (Fi.range_pfx (Fi.adr ⟨x0, x1, x2, x3, x4, x5⟩) (Fi.adrTo ws j) hil)
          have hlen : pre2.length < (Fi.adrs ws).length := by
            have h1 : (pre2.map (·.1)).length = (Fi.adrTo ws j).length + i := by rw [HPRE2.out]; simp
            have h2 := HTOT.out.length_le
            rw [HUP.out] at h2
            simp at h1 h2
            omega
          obtain ⟨fn, tmps, assign, body, hy, hR⟩ := HY.out pre2 ⟨x0 + (i : Int), by omega, by omega⟩ wr HJp2.out hlen
          have HP3 := Lib.hid (show (pre2 ++ [(⟨x0 + (i : Int), by omega, by omega⟩ : Fi.AB)]).map (·.1) = Fi.adrTo ws j ++ (List.range (i + 1)).map (Fi.adr ⟨x0, x1, x2, x3, x4, x5⟩) by
            rw [List.map_append, HPRE2.out, List.range_succ, List.map_append, List.append_assoc]
            rfl)
          gi_wp2
          refine ⟨fun _ => by omega, ?_⟩
          refine hR.mono ?_
          rintro e W3 (⟨rfl, hJ3, hk3⟩ | ⟨rfl, hJx3⟩)
          · have HJ5 := Lib.hid hJ3
            have HBL5 := Lib.hid (HBL2.out.trans hk3.bel)
            have hsz5 := hk3.size
            have HB25 := Lib.hid (hk3.boxes _ _ _ rfl HB22.out)
            have HX5 := Lib.hid (hk3.boxes _ _ _ rfl HXW2.out)
            clear hk3 hJ3
            gi_wp2
            go_roundw
            case rel => exact ⟨i + 1, _, by omega, by go_num, HP3, HJ5, HBL5, by omega, HB25, HX5⟩
            case measure => simp [intOf]; omega
          · have HE := Lib.hid (show (pre2 ++ [(⟨x0 + (i : Int), by omega, by omega⟩ : Fi.AB)]).map (·.1) <+: Fi.adrs ws by
              rw [HP3.out]
              refine HPF.out.trans ?_
              have := HTOT.out
              rw [HUP.out] at this
              exact this)
            gi_wp2
            refine bodyPost_ret (results_none rfl _ _ _) rfl ?_
            exact ⟨⟨_, rfl⟩, .inr ⟨_, HE.out, hJx3⟩⟩
        · obtain rfl : i = x2 := by omega
          have d0 : decide ((i : Int) < (i : Int)) = false := decide_eq_false (by omega)
          have HPN := Lib.hid (HPRE2.out.trans HUP.out.symm)
          gi_wp2
          go_roundw
          case rel => exact ⟨j + 1, pre2, by omega, by go_num, HPN, HJp2, HBL2, by omega, HB22⟩
          case measure => simp [intOf]; omega
    · obtain rfl : j = ws.length := by omega
      gi_wp2
      go_end0
      exact ⟨⟨_, rfl⟩, .inl ⟨pre, HPRE.out, HJp.out⟩⟩

/-- addresses' value. -/
theorem addrs_any (v : Value) (A : Option Addr) (n c : Nat) (hv : v = .slice A n c) (w : World) : Calls Tryz.prog 23 #[v] w fun e w' =>
    e = .returned (.func (.func 44) #[] #[.pointer (some ⟨w.heap.size, 0, none⟩)]) ∧ w' = w.alloc (.cells #[v] 32) := by
  subst hv
  go_enter Tryz.func23, Tryz.ntmps23
  go_wp2_with fail
  go_ret
  exact ⟨by simp, rfl⟩
/-- addresses' value, for a range over it. -/
theorem addr_stops (n : Nat) (hn : 2 ≤ n) (n₀ b2 : Nat) (v : Value) (ws : List Fi.Wr) (w : World) (hn₀ : n₀ ≤ w.heap.size)
    (hx : w.heap[b2]? = some (.cells #[v] 32 (0, 0))) (hw : ∀ W', Below n₀ w W' → Fi.Wrs W' v ws) (hok : ∀ j, j < ws.length → Fi.okW (ws.getD j Fi.wr0)) :
    SeqStopsK Fence.wide n Tryz.prog 44 #[.pointer (some ⟨b2, 0, none⟩)] (fun x : Fi.AB => #[.int .i64 x.1]) (Fi.Kp n₀)
      (fun ys => ys.map (·.1) = Fi.adrs ws) (fun pre => pre.map (·.1) <+: Fi.adrs ws) (Fi.adrs ws).length w := fun l J Jx W hW hJ _ hY h0 =>
  addr1_in n hn l n₀ b2 v ws J Jx W (Nat.le_trans hn₀ hW.size) hJ hY ((hW.block b2 (Array.getElem?_eq_some_iff.1 hx).1).trans hx) (fun W' h => hw W' ((hW.mono hn₀).trans h)) hok h0
end Go.Proofs.YtiekfipjbmdkpaaGreatDoor
