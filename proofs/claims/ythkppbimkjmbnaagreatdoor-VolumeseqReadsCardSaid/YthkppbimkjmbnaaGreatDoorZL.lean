/-
  The walks through udftag: values, Faults and its closure add.
-/
import Derived.Test.YthkppbimkjmbnaaGreatDoorZG
import Derived.Test.YthkppbimkjmbnaaGreatDoorZB
namespace Go.Proofs.YthkppbimkjmbnaaGreatDoor
open Go.RowKit
open Vs (bs by_)

set_option maxHeartbeats 1600000 in
set_option maxRecDepth 100000 in
/-- udftag.values. -/
theorem values_any (s : ByteArray) (h : 16 ≤ s.size) (hs : s.size ≤ 9223372036854775807) (w : World) : Calls Tryz.prog 95 #[.string s] w fun e w' => e = .returned (.agg #[.int .i64 (Pm.at_ (by_ s) 0 2 : Nat), .int .i64 (Pm.at_ (by_ s) 6 2 : Nat), .int .i64 (Pm.at_ (by_ s) 10 2 : Nat), .int .i64 (Pm.at_ (by_ s) 12 4 : Nat)]) ∧ Below w.heap.size w w' := by
  have C0 := Lib.hid (fun W => tRead_any s 0 2 0 2 rfl rfl (.inl rfl) (by omega) hs W)
  have C1 := Lib.hid (fun W => tRead_any s 6 2 6 2 rfl rfl (.inl rfl) (by omega) hs W)
  have C2 := Lib.hid (fun W => tRead_any s 10 2 10 2 rfl rfl (.inl rfl) (by omega) hs W)
  have C3 := Lib.hid (fun W => tRead_any s 12 4 12 4 rfl rfl (.inr rfl) (by omega) hs W)
  generalize Pm.at_ (by_ s) 0 2 = a at *
  generalize Pm.at_ (by_ s) 6 2 = b at *
  generalize Pm.at_ (by_ s) 10 2 = c at *
  generalize Pm.at_ (by_ s) 12 4 = d at *
  go_enter Tryz.func95, Tryz.ntmps95
  go_wp2_with fail
  with_reducible refine (C0.out _).mono ?_
  rintro e w2 ⟨rfl, hw⟩
  subst hw
  go_wp2_with fail
  with_reducible refine (C1.out _).mono ?_
  rintro e w2 ⟨rfl, hw⟩
  subst hw
  go_wp2_with fail
  with_reducible refine (C2.out _).mono ?_
  rintro e w2 ⟨rfl, hw⟩
  subst hw
  go_wp2_with fail
  with_reducible refine (C3.out _).mono ?_
  rintro e w2 ⟨rfl, hw⟩
  subst hw
  go_wp2_with fail
  exact bodyPost_ret (v := .agg #[.int .i64 (a : Int), .int .i64 (b : Int), .int .i64 (c : Int), .int .i64 (d : Int)]) (results_cell_row rfl _ _ w.heap.size 104 _ (0, 0) _ rfl (heap_alloc_new w _) Tryz.underlying104 rfl (by kernel_rfl)) rfl ⟨rfl, (Below.refl _ _).alloc (Nat.le_refl _) _⟩

namespace Vs
theorem grown_set (w : World) (b j : Nat) (u : Value) : w.grownBy (w.setCell ⟨b, j, none⟩ u) (some b) :=
  ⟨rfl, rfl, rfl, by simp, fun k _ hne => heap_setCell_other _ _ _ _ (fun e => hne (congrArg some e))⟩
/-- One fault more, or none. -/
def addF (l : List Int) (t : Bool) (f : Int) : List Int := l ++ (if t = true then [f] else [])
structure FS (w : World) (ob g : Nat) (a b c d : Int) (l : List Int) (W : World) : Prop where
  box : ∃ v, W.heap[ob]? = some (.cells #[v] 34 (0, 0)) ∧ W.ownsRow (g + 1) 3 1 v l.length (Kit.izs l)
  tag : W.heap[g]? = some (.cells #[.int .i64 a, .int .i64 b, .int .i64 c, .int .i64 d] 104 (0, 0))
  bel : Below w.heap.size w W
  lo : w.heap.size ≤ ob
  mid : ob < g
theorem FS.lt {w W : World} {ob g : Nat} {a b c d : Int} {l : List Int} (h : FS w ob g a b c d l W) : g < W.heap.size := (Array.getElem?_eq_some_iff.1 h.tag).1
theorem FS.below {w W W' : World} {ob g : Nat} {a b c d : Int} {l : List Int} (h : FS w ob g a b c d l W) (hb : Below W.heap.size W W') : FS w ob g a b c d l W' := by
  obtain ⟨v, hv, ho⟩ := h.box
  have hg := h.lt
  have h2 := h.mid
  have h3 := h.lo
  exact ⟨⟨v, (hb.block _ (by omega)).trans hv, Kit.own_below ho hb⟩, (hb.block _ hg).trans h.tag, h.bel.trans (hb.mono (by omega)), h3, h2⟩
end Vs

set_option maxHeartbeats 1600000 in
set_option maxRecDepth 100000 in
/-- add. -/
theorem add_any (w W : World) (ob g : Nat) (a b c d : Int) (l : List Int) (h : Vs.FS w ob g a b c d l W) (hl : l.length ≤ 100) (f : Int) (t : Bool) :
    Calls Tryz.prog 150 #[.int .i64 f, .bool t, .pointer (some ⟨ob, 0, none⟩)] W fun e W' => e = .returned (.bool t) ∧ Vs.FS w ob g a b c d (Vs.addF l t f) W' := by
  cases t with
  | false =>
    have H := Lib.hid (show Vs.FS w ob g a b c d (Vs.addF l false f) W by unfold Vs.addF; simpa using h)
    clear h
    go_enter Tryz.func150, Tryz.ntmps150
    go_wp2_with fail
    go_ret
    exact ⟨rfl, H.out⟩
  | true =>
    have hg := h.lt
    have h2 := h.mid
    have h3 := h.lo
    obtain ⟨v, hv, ho⟩ := h.box
    have HT := Lib.hid h.tag
    have HL := Lib.hid h.bel
    have HO := Lib.hid ho
    have HV := Lib.hid hv
    have hc := cell_of_row _ _ 0 _ _ _ hv
    have hf := frozen_of_row _ _ 0 _ _ hv
    simp only [List.getElem?_toArray, List.getElem?_cons_zero] at hc
    have HC := Lib.hid hc
    have HFZ := Lib.hid hf
    have HG := Lib.hid hg
    have H2 := Lib.hid h2
    have H3 := Lib.hid h3
    have hhp : (⟨ob, 0, none⟩ : Addr).block < W.heap.size := by show ob < W.heap.size; omega
    clear h ho hv h2 h3 hg
    go_enter Tryz.func150, Tryz.ntmps150
    have hsz : g + 1 ≤ W.heap.size := HG.out
    go_wp2_with (at_builtin; refine Kit.app intInfo rfl (by decide) rfl _ _ 34 rfl Tryz.underlying34 (g + 1) _ _ _ rfl HO.out [_] 1 1 rfl rfl (Kit.one1 rfl) ?c1 hsz ?_)
    case c1 => omega
    intro v' w' ho' hb'
    obtain ⟨g2, cap2, rfl⟩ : ∃ g2 cap2, v' = .slice (some ⟨g2, 0, none⟩) (l.length + 1) cap2 := by
      rcases ho'.2 with ⟨_, h0⟩ | ⟨g2, cap2, _, h0, _⟩
      · omega
      · exact ⟨g2, cap2, h0⟩
    have hg1 := HG.out
    have hg2 := H2.out
    have hg3 := H3.out
    have hv' := (hb'.block ob (by omega)).trans HV.out
    have ht' := (hb'.block g (by omega)).trans HT.out
    have hc' := cell_of_row _ _ 0 _ _ _ hv'
    have hf' := frozen_of_row _ _ 0 _ _ hv'
    simp only [List.getElem?_toArray, List.getElem?_cons_zero] at hc'
    have HV' := Lib.hid hv'
    have HT' := Lib.hid ht'
    have HO' := Lib.hid ho'
    have HB' := Lib.hid (HL.out.trans (hb'.mono (by omega)))
    clear ho' hb' hv' ht' hg1 hg2 hg3
    go_wp2_with fail
    go_ret
    refine ⟨rfl, ⟨⟨_, (heap_setCell_same _ _ 0 _ _ _ HV'.out), ?_⟩, (heap_setCell_other _ _ _ _ (by have := H2.out; simp; omega)).trans HT'.out, HB'.out.setCell H3.out _, H3.out, H2.out⟩⟩
    have hl2 : (Vs.addF l true f).length = l.length + 1 := by simp [Vs.addF]
    have hz : Kit.izs (Vs.addF l true f) = Kit.izs l ++ [Value.int .i64 f] := by simp [Vs.addF, Kit.izs]
    rw [hl2, hz]
    refine HO'.out.kept (Vs.grown_set _ _ _ _) (.inr fun e => ?_)
    have h1 := (HO'.out.lt g2 rfl).1
    have h2 := H2.out
    have e' : g2 = ob := Option.some.inj e
    omega
end Go.Proofs.YthkppbimkjmbnaaGreatDoor
