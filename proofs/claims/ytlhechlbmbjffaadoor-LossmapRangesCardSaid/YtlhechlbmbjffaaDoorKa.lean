/-
  lossmap.Recover.
-/
import Derived.Test.YtlhechlbmbjffaaDoorJx
import Derived.Test.YtlhechlbmbjffaaDoorJs
import Derived.Test.YtlhechlbmbjffaaDoorShelf
namespace Go.Proofs.YtlhechlbmbjffaaDoor
open Go.RowKit Go.Maps
attribute [local go_sem] Oper.semAt_some
namespace Lm
/-- The bytes of a path in pieces. -/
def pieceB (path : ByteArray) (p : P) : List UInt8 := if p.path = path then (if p.ok = true then p.data.data.toList else List.replicate p.len.toNat 0) else []
def recB (path : ByteArray) (ps : List P) : List UInt8 := ps.flatMap (pieceB path)
def recR (img : List ByteArray) (fs : List F) (path : ByteArray) : List UInt8 := recB path (piecesR img fs)
def recE (img : List ByteArray) (fs : List F) (path : ByteArray) : Int := if chkR img fs ≠ 0 then chkR img fs else if fs.all (isN path) = true then 6 else 0
theorem recB_snoc (path : ByteArray) (ps : List P) (p : P) : recB path (ps ++ [p]) = recB path ps ++ pieceB path p := by simp [recB]
theorem pieceB_len {path : ByteArray} {p : P} (h : okP p = true) : (pieceB path p).length ≤ 2048 := by
  obtain ⟨_, _, _, h4, h5, h6⟩ := (okP_iff p).1 h
  unfold pieceB
  split
  · split
    · simpa using h6
    · rw [List.length_replicate]; omega
  · simp
theorem recB_len {path : ByteArray} : ∀ ps : List P, ps.all okP = true → (recB path ps).length ≤ 2048 * ps.length
  | [], _ => by simp [recB]
  | p :: t, h => by
    simp only [List.all_cons, Bool.and_eq_true] at h
    have h1 := pieceB_len (path := path) h.1
    have h2 := recB_len (path := path) t h.2
    simp only [recB, List.flatMap_cons, List.length_append, List.length_cons] at h2 ⊢
    omega
theorem repeatL_zero (n : Nat) : Lib.repeatL [0] n = List.replicate n 0 := by
  induction n with
  | zero => rfl
  | succ n ih => simp [Lib.repeatL, ih, List.replicate_succ]
theorem byteCells_app (a b : List UInt8) : Lib.byteCells (a ++ b) = Lib.byteCells a ++ Lib.byteCells b := by simp [Lib.byteCells]
/-- A builder's contents. -/
abbrev Bld (W : World) (b : Nat) (l : List UInt8) : Prop := Lib.IsBuilderF 71 5 b b (Lib.byteCells l) W
theorem BldAt.grown {T e : TypeId} {B b : Nat} {p : Value} {bs : List Value} {W W' : World} {row : Option Nat} (h : Lib.BuilderAtF T e B b p bs W) (hg : W.grownBy W' row) (hr : ∀ r, row = some r → ∃ o : Obj, W.heap[r]? = some o ∧ o.isCells = false) : Lib.BuilderAtF T e B b p bs W' := by
  have hlt := h.lt
  obtain ⟨hB, v, hv, hown, hne⟩ := h
  refine ⟨hB, v, (hg.block b hlt (fun e => ?_)).trans hv, hown.kept hg ?_, hne⟩
  · obtain ⟨o, ho, hc⟩ := hr b e.symm
    rw [hv] at ho
    cases ho
    cases hc
  · rcases hown.2 with ⟨e, _⟩ | ⟨g, cap, cur, fz, e, _, hg2, _⟩
    · exact .inl (by rw [e]; rfl)
    · refine .inr (fun e2 => ?_)
      rw [e] at e2
      obtain ⟨o, ho, hc⟩ := hr g e2.symm
      rw [hg2] at ho
      cases ho
      cases hc
theorem BldF.below {W W' : World} {b : Nat} {l : List UInt8} (h : Bld W b l) (hb : Below W.heap.size W W') : Bld W' b l :=
  h.elim (fun x => .inl (BldAt.grown x (Kit.grown_of_below hb) (fun r e => by cases e))) (fun x => .inr (BldAt.grown x (Kit.grown_of_below hb) (fun r e => by cases e)))
/-- Between two rounds of Recover. -/
structure RI (w : World) (path : ByteArray) (pb bb : Nat) (pre : List PB) (W : World) : Prop where
  bel : Below w.heap.size w W
  size : bb + 3 ≤ W.heap.size
  box : W.heap[pb]? = some (.cells #[.string path] 9 (0, 0))
  bld : Bld W bb (recB path (pre.map (·.1)))
theorem RI.own (w : World) (path : ByteArray) (pb bb : Nat) (hbb : w.heap.size ≤ bb) (hpb : pb < bb) : OwnFrom (bb + 3) (RI w path pb bb) := fun pre W W' row h hg hr => by
  have hne : ∀ k, k < bb + 3 → some k ≠ row := fun k hk e => by have := (hr k e.symm).1; omega
  have hrc : ∀ r, row = some r → ∃ o : Obj, W.heap[r]? = some o ∧ o.isCells = false := fun r e => (hr r e).2
  exact ⟨h.bel.grown hg h.bel.size (fun k e => by have := (hr k e).1; omega), Nat.le_trans h.size hg.size, (hg.block _ (Array.getElem?_eq_some_iff.1 h.box).1 (hne _ (by omega))).trans h.box,
    h.bld.elim (fun x => .inl (BldAt.grown x hg hrc)) (fun x => .inr (BldAt.grown x hg hrc))⟩
def RM (w : World) (path : ByteArray) (pb bb : Nat) (T : Array Value) (pre : List PB) (x : PB) (b : Act) (W : World) : Prop :=
  RI w path pb bb pre W ∧ ∃ g, bb + 3 ≤ g ∧ b = { tmps := (T.setIfInBounds 24 (pV x.1)).setIfInBounds 10 (.pointer (some ⟨g, 0, none⟩)), defers := [] } ∧ W.heap[g]? = some (.cells #[.string x.1.path, .int .i64 x.1.off, .int .i64 x.1.len, .string x.1.data, .bool x.1.ok] 61 (0, 0))
theorem RM.own (w : World) (path : ByteArray) (pb bb : Nat) (hbb : w.heap.size ≤ bb) (hpb : pb < bb) (T : Array Value) (pre : List PB) (x : PB) : OwnFrom (bb + 3) (RM w path pb bb T pre x) := fun b W W' row h hg hr => by
  obtain ⟨hI, g, hgB, hb, hx⟩ := h
  refine ⟨RI.own w path pb bb hbb hpb pre W W' row hI hg hr, g, hgB, hb, (hg.block g (Array.getElem?_eq_some_iff.1 hx).1 (fun e => ?_)).trans hx⟩
  obtain ⟨_, o, ho, hc⟩ := hr g e.symm
  rw [hx] at ho
  cases ho
  cases hc
theorem RI.put {w W W' : World} {path : ByteArray} {pb bb : Nat} {pre : List PB} {x : PB} (hbb : w.heap.size ≤ bb) (hpb : pb < bb) (hI : RI w path pb bb pre W) (hb : Below bb W W') (ho : Lib.OthersKept 5 (some bb) W W') (hbl : Bld W' bb (recB path ((pre ++ [x]).map (·.1)))) :
    KeepsFrom (bb + 3) W W' ∧ Kp w.heap.size (bb + 3) W W' ∧ RI w path pb bb (pre ++ [x]) W' := by
  have nc : ∀ {o : Obj}, o.isCells = false → ∀ c fz, o ≠ .cells c 5 fz := fun h c fz e => by rw [e] at h; cases h
  have nw : ∀ {o : Obj}, o.isWalk = true → ∀ c fz, o ≠ .cells c 5 fz := fun h c fz e => by rw [e] at h; cases h
  refine ⟨⟨hb.size, fun k o hk hko hc => ho k o hko (fun e => by have : k = bb := Option.some.inj e; omega) (nc hc)⟩, ⟨hb.mono hbb, hb.size, fun k o hk hko hw => ho k o hko (fun e => by have : k = bb := Option.some.inj e; omega) (nw hw), fun k cs T hT hko => ho k _ hko (fun e => ?_) (fun c fz e => ?_)⟩, hI.bel.trans (hb.mono hbb), Nat.le_trans hI.size hb.size, (hb.block pb hpb).trans hI.box, hbl⟩
  · have e' : k = bb := Option.some.inj e
    subst e'
    rcases hI.bld with ⟨_, v, hv, _⟩ | ⟨_, v, hv, _⟩
    all_goals
      rw [hko] at hv
      have := Option.some.inj hv
      injection this with _ h2 _
      subst h2
      revert hT
      decide
  · injection e with _ h2 _
    subst h2
    revert hT
    decide
end Lm
/-- WriteString, for such a builder. -/
theorem writeB (b : Nat) (l : List UInt8) (s : ByteArray) (w : World) (h : Lm.Bld w b l) (hl : l.length + s.size ≤ 140737488355328) (hb : b ≤ w.heap.size) :
    Calls Tryd.prog 35 #[.pointer (some ⟨b, 0, none⟩), .string s] w fun e w' => e = .returned (.tuple #[.int .i64 s.size, .nilIface]) ∧ Lm.Bld w' b (l ++ s.data.toList) ∧ Below b w w' ∧ Lib.OthersKept 5 (some b) w w' :=
  (Tryd.yWriteString b b _ s w h (by simpa [Lib.byteCells] using hl) hb).mono (by
    rintro e w' ⟨rfl, h1, h2, h3⟩
    refine ⟨rfl, .inr ?_, h2, h3⟩
    rw [Lm.byteCells_app]
    exact h1)
/-- Zero bytes. -/
theorem zerosB (n : Int) (w : World) (h1 : 1 ≤ n) (h2 : n ≤ 2048) :
    Calls Tryd.prog 21 #[.string ⟨#[0]⟩, .int .i64 n] w fun e w' => e = .returned (.string ⟨(List.replicate n.toNat 0).toArray⟩) ∧ Below w.heap.size w w' := by
  have h := Tryd.strings_Repeat ⟨#[0]⟩ n.toNat w (by omega) (by show 1 * n.toNat ≤ _; omega)
  rw [show ((n.toNat : Nat) : Int) = n by omega] at h
  refine h.mono ?_
  rintro e w' ⟨rfl, hb⟩
  refine ⟨?_, hb⟩
  have : (⟨#[0]⟩ : ByteArray).data.toList = [0] := rfl
  rw [this, Lm.repeatL_zero]
end Go.Proofs.YtlhechlbmbjffaaDoor
