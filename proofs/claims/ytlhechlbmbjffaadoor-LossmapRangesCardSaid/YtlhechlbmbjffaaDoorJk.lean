/-
  pieces, and its value for a range over a function.
-/
import Derived.RangeFuncKeeps
import Derived.Test.YtlhechlbmbjffaaDoorJi
namespace Go.Proofs.YtlhechlbmbjffaaDoor
open Go.RowKit

set_option maxHeartbeats 1600000 in
set_option maxRecDepth 100000 in
/-- lossmap.pieces. -/
theorem pieces_any (A2 A3 : Option Addr) (n2 c2 n3 c3 : Nat) (w : World) : Calls Tryd.prog 26 #[.slice A2 n2 c2, .slice A3 n3 c3] w fun e w' =>
    e = .returned (.func (.func 49) #[] #[.pointer (some ⟨w.heap.size + 1, 0, none⟩), .pointer (some ⟨w.heap.size, 0, none⟩)]) ∧
    w' = (w.alloc (.cells #[.slice A2 n2 c2] 23)).alloc (.cells #[.slice A3 n3 c3] 24) := by
  go_enter Tryd.func26, Tryd.ntmps26
  go_wp2_with fail
  go_ret
  exact ⟨by simp, rfl⟩

namespace Lm
theorem Kp.refl (n₀ B : Nat) (W : World) : Kp n₀ B W W := ⟨Below.refl n₀ W, Nat.le_refl _, fun _ _ _ h _ => h, fun _ _ _ _ h => h⟩
theorem Kp.putObj {n₀ B : Nat} {w : World} (hn : n₀ ≤ w.heap.size) (W : World) (l : Nat) (o o' : Obj) (hl : w.heap.size ≤ l) (h : W.heap[l]? = some o) (hc : o.isCells = false) (hw : o.isWalk = false) : Kp n₀ B W (W.putObj l o') := by
  have hb : ∀ k, k ≠ l → (W.putObj l o').heap[k]? = W.heap[k]? := fun k hk => by
    have hg := grownBy_putObj' W l o'
    by_cases hk2 : k < W.heap.size
    · exact hg.block k hk2 (fun e => hk (Option.some.inj e))
    · have h1 : W.heap[k]? = none := Array.getElem?_eq_none (by omega)
      have h2 : (W.putObj l o').heap[k]? = none := Array.getElem?_eq_none (by simp [World.putObj]; omega)
      rw [h1, h2]
  refine ⟨belowK_b hn W l o o' hl h hc hw, (grownBy_putObj' W l o').size, fun k ob _ hk hww => ?_, fun k cs T _ hk => ?_⟩
  · by_cases hkl : k = l
    · subst hkl
      rw [h] at hk
      cases hk
      rw [hw] at hww
      cases hww
    · exact (hb k hkl).trans hk
  · by_cases hkl : k = l
    · subst hkl
      rw [h] at hk
      cases hk
      cases hc
    · exact (hb k hkl).trans hk
end Lm

/-- pieces' value, for a range over it. -/
theorem pieces_stops (n : Nat) (hn : 2 ≤ n) (n₀ b2 b3 : Nat) (v2 v3 : Value) (img : List ByteArray) (fs : List Lm.F) (w : World) (hn₀ : n₀ ≤ w.heap.size)
    (hx2 : w.heap[b2]? = some (.cells #[v2] 23 (0, 0))) (hx3 : w.heap[b3]? = some (.cells #[v3] 24 (0, 0)))
    (hm : ∀ W', Below n₀ w W' → Lm.Strs W' v2 img) (hf : ∀ W', Below n₀ w W' → Lm.Files W' v3 fs) (hall : fs.all Lm.okF = true) (h50 : fs.length ≤ 1024) (h700 : img.length ≤ 4096) (hps : ∀ j, j < fs.length → (fs.getD j Lm.f0).path.size ≤ 500) :
    SeqStopsK Fence.wide n Tryd.prog 49 #[.pointer (some ⟨b3, 0, none⟩), .pointer (some ⟨b2, 0, none⟩)] (fun x : Lm.PB => #[Lm.pV x.1]) (Lm.Kp n₀ w.heap.size)
      (fun ys => ys.map (·.1) = Lm.piecesR img fs) (fun pre => pre.map (·.1) <+: Lm.piecesR img fs) (Lm.piecesR img fs).length w := fun l J Jx W hW hJ _ hY h0 =>
  pieces1_in n hn l n₀ b2 b3 w.heap.size v2 v3 img fs J Jx W hW.size (Nat.le_trans hn₀ hW.size) hJ hY
    ((hW.block b2 (Array.getElem?_eq_some_iff.1 hx2).1).trans hx2) ((hW.block b3 (Array.getElem?_eq_some_iff.1 hx3).1).trans hx3)
    (fun W' h => hm W' ((hW.mono hn₀).trans h)) (fun W' h => hf W' ((hW.mono hn₀).trans h)) hall h50 h700 hps h0
end Go.Proofs.YtlhechlbmbjffaaDoor
