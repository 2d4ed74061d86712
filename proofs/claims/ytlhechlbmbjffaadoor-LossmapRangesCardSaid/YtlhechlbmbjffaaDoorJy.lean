/-
  A range over a function whose loop variable lies in a box of its own: the assignment may make blocks, the body always goes on.
-/
import Derived.RangeFuncWrites
import Derived.Test.YtlhechlbmbjffaaDoorKit
namespace Go.Proofs.YtlhechlbmbjffaaDoor
open Go.RowKit
namespace Lm
/-- What a step of the round leaves: new blocks and the law's own two stand, the iterator's ground stands, J holds. -/
def Went (B : Nat) (Kp : World → World → Prop) (W : World) (J : Act → World → Prop) (b : Act) (W' : World) : Prop := KeepsFrom B W W' ∧ Kp W W' ∧ J b W'
/-- The body's end: it goes on. -/
def onPost (B : Nat) (Kp : World → World → Prop) (W : World) (J : World → Prop) : Exit → Act → World → Prop
  | .normal, _, W' => KeepsFrom B W W' ∧ Kp W W' ∧ J W'
  | _, _, _ => False

theorem rangeOn {F : Fence} {n : Nat} {P : Program} {α : Type} {g : Operand} {ps : Array Tmp} {assign body : Code} {Q : Exit → Act → World → Prop} {a : Act} {w : World} (hro : F.round = none) (h1 : 1 ≤ n) {gf : Nat} {lb : Array Value}
    (hg : a.eval g = .func (.func gf) #[] lb) (hF : F.fn gf) (eg : ∀ args w, (callFunc gf args).run P w = .ok (.enter gf args) w) {encs : α → Array Value} {Kp : World → World → Prop} {S Sp : List α → Prop} {N : Nat} {w0 : World}
    (hs : SeqStopsK F (n - 1) P gf lb encs Kp S Sp N w0) (hb0 : Below w0.heap.size w0 w) (hps : ∀ x, (encs x).size = ps.size)
    (kt : ∀ {X Y Z : World}, Kp X Y → Kp Y Z → Kp X Z) (kb : ∀ (W : World) (l : Nat) (o o' : Obj), w.heap.size ≤ l → W.heap[l]? = some o → o.isCells = false → o.isWalk = false → Kp W (W.putObj l o'))
    (I : List α → World → Prop) (M : Array Value → List α → α → Act → World → Prop) (hI : OwnFrom w.heap.size I) (hM : ∀ pre x, OwnFrom w.heap.size (M a.tmps pre x)) (h0 : I [] w)
    (ha : ∀ l pre x W, I pre W → pre.length < N → assign.wpIn (F.inRound l) (n - 1 - 1) P (Exit.then (Went w.heap.size Kp W (M a.tmps pre x)) (fun _ _ _ => False)) { tmps := (ps.zip (encs x)).foldl (fun t (p, v) => t.setIfInBounds p v) a.tmps, defers := [] } W)
    (hb : ∀ l pre x b W, M a.tmps pre x b W → pre.length < N → body.wpIn (F.inRound l) (n - 1 - 1) P (onPost w.heap.size Kp W (I (pre ++ [x]))) b W)
    (hd : ∀ D xs W, w.heap.size ≤ D → S xs → I xs W → W.heap[D]? = some (.deferred (some [])) → Q .normal { a with defers := { target := .collected D, args := #[] } :: a.defers } W) :
    (Code.rangeFunc g ps assign body).wpIn F n P Q a w := by
  refine wpIn_rangeFunc fun fn hfn => ?_
  rw [hro]
  generalize hD : w.heap.size = D at *
  let rc : LoopState → Loop := fun st => { state := st, pending := none, fn, tmps := a.tmps, params := ps, assign, body, defers := D }
  let W1 := (w.alloc (.deferred (some []))).alloc (.loop (rc .ready))
  have b1 : Below D w W1 := by
    rw [← hD]
    exact ((Below.refl _ w).alloc (Nat.le_refl _) _).alloc (by simp) _
  have z1 : W1.heap.size = D + 2 := by simp [W1, hD]
  have l1 : W1.heap[D + 1]? = some (.loop (rc .ready)) := by
    have := World.alloc_heap_new (w.alloc (.deferred (some []))) (.loop (rc .ready))
    rwa [World.size_alloc, hD] at this
  have d1 : W1.heap[D]? = some (.deferred (some [])) := by
    have h := World.alloc_heap_new w (.deferred (some []))
    rw [hD] at h
    exact (Below.heap_alloc _ _ _ (by simp [hD])).trans h
  have i1 : I [] W1 := hI.alloc _ (hI.alloc _ h0)
  refine ⟨D + 1, [{ target := .collected D, args := #[] }], W1, { target := .fn (.func gf) lb, args := #[.func (.yield (D + 1)) #[] #[]] }, W1, gf, #[.func (.yield (D + 1)) #[] #[]] ++ lb, W1, ?_, by simp only [resolve, hg]; simp [go_sem], ?_, by simp [invoke, go_sem, eg], fun _ => h1, ?_⟩
  · have := run_enterLoop_outer (P := P) (w := w) fn a.tmps ps assign body
    rw [hD] at this
    exact this
  · intro f' hf'
    simp [Target.leads] at hf'
    subst hf'
    exact hF
  · let Two : World → LoopState → Prop := fun W st => W.heap[D + 1]? = some (.loop (rc st)) ∧ W.heap[D]? = some (.deferred (some []))
    have two : ∀ {X Y : World} {row : Option Nat} {st : LoopState}, X.grownBy Y row → (∀ r, row = some r → W1.heap.size ≤ r ∧ ∃ o : Obj, X.heap[r]? = some o ∧ o.isWalk = true) → Two X st → Two Y st := fun hg' hr ht =>
      ⟨(grownBy_keeps hg' (fun r e => (hr r e).2) ht.1 rfl).trans ht.1, (grownBy_keeps hg' (fun r e => (hr r e).2) ht.2 rfl).trans ht.2⟩
    refine (hs (D + 1) (fun pre W => I pre W ∧ Two W .ready) (fun _ _ => False) W1 ((hb0.trans (b1.mono (by have := hb0.size; omega)))) (fun s X Y row hx hg' hr => ⟨hI s X Y row hx.1 hg' (fun r e => ?_), two hg' hr hx.2⟩) (fun _ _ _ _ hx _ _ => hx) ?_ ⟨i1, l1, d1⟩).mono ?_
    · obtain ⟨h2, o, ho, hw⟩ := hr r e
      exact ⟨by omega, o, ho, Obj.not_cells_of_walk hw⟩
    · rintro pre x W ⟨hi, hl, hk⟩ hlen
      have zW : D + 1 < W.heap.size := (Array.getElem?_eq_some_iff.1 hl).1
      refine ⟨fn, _, assign, body, run_yield (P := P) (args := encs x) hl (hps x), roundIn_of_wpIn hfn (wpIn_mono (ha (D + 1) pre x W hi hlen) ?_)⟩
      intro ex b W2 hx
      cases ex with
      | normal =>
        obtain ⟨k2, p2, m2⟩ := hx
        have l2 := k2.same _ _ (by omega) hl rfl
        have z2 : D + 1 < W2.heap.size := (Array.getElem?_eq_some_iff.1 l2).1
        refine ⟨_, run_beginRound l2 rfl, wpIn_mono (hb (D + 1) pre x b _ ((hM pre x).putObj _ m2 (by omega) l2 rfl) hlen) ?_⟩
        have kk := kb W2 (D + 1) _ (.loop (rc .busy)) (by omega) l2 rfl rfl
        have l3 : (W2.putObj (D + 1) (.loop (rc .busy))).heap[D + 1]? = some (.loop (rc .busy)) := World.putObj_heap_same z2
        have d3 : (W2.putObj (D + 1) (.loop (rc .busy))).heap[D]? = some (.deferred (some [])) := (World.putObj_heap_other (by omega)).trans (k2.same _ _ (Nat.le_refl _) hk rfl)
        intro ex2 b2 W4 hx2
        cases ex2 with
        | normal =>
          obtain ⟨k4, p4, i4⟩ := hx2
          have l4 := k4.same _ _ (by omega) l3 rfl
          exact ⟨_, _, run_endRound (P := P) none l4, .inl ⟨rfl, ⟨hI.putObj _ i4 (by omega) l4 rfl, World.putObj_heap_same (Array.getElem?_eq_some_iff.1 l4).1, (World.putObj_heap_other (by omega)).trans (k4.same _ _ (Nat.le_refl _) d3 rfl)⟩,
            kt (kt (kt p2 kk) p4) (kb _ _ _ _ (by omega) l4 rfl rfl)⟩⟩
        | _ => exact hx2.elim
      | _ => exact hx.elim
    · rintro e W2 ⟨⟨v, rfl⟩, (⟨xs, hS, hi, hl, hk⟩ | ⟨_, _, h⟩)⟩
      · exact ⟨none, _, run_endLoop (P := P) hl (by simp [rc]), hd D xs _ (Nat.le_refl _) hS (hI.putObj _ hi (by omega) hl rfl) ((World.putObj_heap_other (by omega)).trans hk)⟩
      · exact h.elim
end Lm
end Go.Proofs.YtlhechlbmbjffaaDoor
