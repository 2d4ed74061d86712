/-
  slices.Clone of images.
-/
import Derived.Shelf.Slices.Clone
import Derived.Test.YtlhechlbmbjffaaDoorJm
namespace Go.Proofs.YtlhechlbmbjffaaDoor
open Go.RowKit

set_option maxHeartbeats 1600000 in
set_option maxRecDepth 100000 in
/-- slices.Clone of images. -/
theorem cloneI_any (v : Value) (l : List ByteArray) (w : World) (h : Kit.RowS w v (Lm.strs l)) (hl : l.length ≤ 4096) :
    Calls Tryd.prog 15 #[v] w fun e w' => ∃ v', e = .returned v' ∧ w'.ownsRow w.heap.size 9 1 v' l.length (Lm.strs l) ∧ Below w.heap.size w w' := by
  have H := Lib.hid h
  obtain ⟨⟨A, c, rfl, hlc, hcm, hc⟩, hn⟩ := h
  rw [Lm.strs_length] at *
  clear hc
  cases A with
  | none =>
    have hc0 := hn _ _ rfl
    subst hc0
    obtain rfl : l = [] := List.eq_nil_of_length_eq_zero (by omega)
    clear hn H
    have q24 : ∀ (w : World) (a : Option Addr) (n c n' c' : Nat), (binOp .eql 23 (.slice a n c) (.slice none n' c')).run Tryd.prog w = .ok (.bool a.isNone) w := fun w a n c n' c' => Lib.run_eql_slice_nil w _ _ a n c n' c' Tryd.underlying23
    go_enter Tryd.func15, Tryd.ntmps15
    go_wp2_with fail
    first | go_ret2 | go_ret
    exact ⟨_, rfl, World.ownsRow_nil _ _ _ _, Below.refl _ _⟩
  | some a =>
    clear hn
    have hb1 := (Below.refl w.heap.size w).alloc (Nat.le_refl _) (.cells #[] 9)
    have HR := Lib.hid (H.out.below hb1)
    have HO := Lib.hid (Kit.own_nil w 9)
    have HB := Lib.hid hb1
    clear hb1 H
    have q24 : ∀ (w : World) (a : Option Addr) (n c n' c' : Nat), (binOp .eql 23 (.slice a n c) (.slice none n' c')).run Tryd.prog w = .ok (.bool a.isNone) w := fun w a n c n' c' => Lib.run_eql_slice_nil w _ _ a n c n' c' Tryd.underlying23
    go_enter Tryd.func15, Tryd.ntmps15
    go_wp2_with (at_builtin; refine Lm.box ?_)
    refine Lib.hid ?_
    refine Kit.appRow strInfo rfl (by decide) rfl _ _ 23 rfl Tryd.underlying23 w.heap.size _ _ _ rfl HO.out _ _ rfl HR.out (Lm.one_strs _) ?c1 ?c2 ?_
    case c1 => rw [Lm.strs_length]; omega
    case c2 => simp
    intro v' w4 hown' hb4
    have HOWN' := Lib.hid hown'
    clear hown'
    go_wp2_with fail
    go_ret
    exact ⟨_, rfl, by
      have h := HOWN'.out
      rw [Lm.strs_length] at h
      simpa using h, HB.out.trans hb4⟩
end Go.Proofs.YtlhechlbmbjffaaDoor
