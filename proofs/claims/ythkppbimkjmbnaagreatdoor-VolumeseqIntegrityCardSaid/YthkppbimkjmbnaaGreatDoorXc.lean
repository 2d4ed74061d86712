/-
  A load of a region that draws its order, taken first where its cell is written late: a condition on the world that is held till certain operations have come up.
-/
import Derived.Deep.RegionHeld
import Derived.Test.YthkppbimkjmbnaaGreatDoorXa
import Derived.Test.YthkppbimkjmbnaaGreatDoorZX
import Derived.Test.YthkppbimkjmbnaaGreatDoorZB
import Derived.Deep.AppendLies
namespace Go.Proofs.YthkppbimkjmbnaaGreatDoor
namespace Kt
variable {P : Program} {ops : Array Oper} {Q : Exit → Act → World → Prop} {md : Region.Mode} {K : List Nat} {T : World → Prop}
/-- One of some operations has not come up. -/
def Due (K : List Nat) (L : Array Bool) : Prop := ∃ k ∈ K, L.getD k true = false
/-- Whatever order is picked; the condition holds as long as one of the operations is due. -/
def wpAnyK (P : Program) (md : Region.Mode) (ops : Array Oper) (Q : Exit → Act → World → Prop) (K : List Nat) (T : World → Prop) : Nat → Array Bool → Act → World → Prop
  | 0, L, a, w => Region.ready md ops L = [] ∧ Q .normal a w
  | f + 1, L, a, w => (Region.ready md ops L = [] → Q .normal a w) ∧ ∀ i ∈ Region.ready md ops L, wpOp P ops Q i (fun a' w' => (Due K (L.setIfInBounds i true) → T w') ∧ wpAnyK P md ops Q K T f (L.setIfInBounds i true) a' w') a w
theorem wpAnyK_any : ∀ (f : Nat) (L : Array Bool) (a : Act) (w : World), wpAnyK P md ops Q K T f L a w → wpAny P md ops Q f L a w
  | 0, _, _, _, h => h
  | f + 1, _, _, _, h => ⟨h.1, fun i hi => wpOp_mono (fun a' w' h' => wpAnyK_any f _ a' w' h'.2) (h.2 i hi)⟩
theorem not_ready {i j k : Nat} {ok : Oper} {L : Array Bool} (hok : ops[k]? = some ok) (hw : ok.after.any (fun e => Region.binds md e && e.on == i) = true) (hi : i ∈ Region.ready md ops L) (hj : j ∈ Region.ready md ops L) : j ≠ k := fun e => by
  subst e
  obtain ⟨_, o, ho, hall⟩ := mem_ready.1 hj
  rw [hok] at ho
  cases ho
  obtain ⟨e, he, hb⟩ := Array.any_eq_true'.1 hw
  simp only [Bool.and_eq_true, beq_iff_eq] at hb
  have h1 := hall e he hb.1
  have h0 := (mem_ready.1 hi).1
  rw [hb.2] at h1
  rcases Nat.lt_or_ge i L.size with h | h
  · simp only [Array.getD_eq_getD_getElem?, Array.getElem?_eq_getElem h, Option.getD_some] at h0 h1
    rw [h0] at h1
    cases h1
  · simp only [Array.getD_eq_getD_getElem?, Array.getElem?_eq_none h, Option.getD_none] at h0
    cases h0
theorem not_hit {i j : Nat} {oj : Oper} {L : Array Bool} (hoj : ops[j]? = some oj) (hi : i ∈ Region.ready md ops L) (hj : j ∈ Region.ready md ops L) : ∀ e ∈ oj.after, Region.binds md e = true → e.on ≠ i := fun e he hb heq =>
  not_ready hoj (Array.any_eq_true'.2 ⟨e, he, by simp only [hb, heq, beq_self_eq_true, Bool.and_self]⟩) hi hj rfl
/-- An operation is taken first: what it yields hangs on the condition, and some operation that waits for it is among those of the condition. -/
theorem first {i k : Nat} {oi ok : Oper} {v : Value} (hi : ops[i]? = some oi) (hk : k ∈ K) (hki : i ≠ k) (hok : ops[k]? = some ok) (hw : ok.after.any (fun e => Region.binds md e && e.on == i) = true) (hsel : ∀ (j : Nat) (o : Oper) cs b, ops[j]? = some o → o.op ≠ .select cs b)
    (hQ : ∀ c a w, Q (.panic c) (a.put oi.dst v) w → Q (.panic c) a w) :
    ∀ (f : Nat) (L : Array Bool) (a : Act) (w : World),
      (∀ j oj, ops[j]? = some oj → j ≠ i → L.getD j true = false → (∀ e ∈ oj.after, Region.binds md e = true → e.on ≠ i) → oi.apart ops oj = true) →
      i ∈ Region.ready md ops L → L.getD k true = false → YieldsIf P ops T oi v a → T w →
      wpAnyK P md ops Q K T f (L.setIfInBounds i true) (a.put oi.dst v) w → wpAnyK P md ops Q K T (f + 1) L a w := by
  intro f
  induction f with
  | zero =>
    intro L a w _ hr _ hy hT H
    refine ⟨fun h => (by rw [h] at hr; cases hr), fun j hj => ?_⟩
    by_cases hji : j = i
    · subst hji
      exact hy.wpOp hi hT ⟨fun _ => hT, H⟩
    · have := ready_mono hj hji
      rw [H.1] at this
      cases this
  | succ f ih =>
    intro L a w hfree hr hu hy hT H
    refine ⟨fun h => (by rw [h] at hr; cases hr), fun j hj => ?_⟩
    by_cases hji : j = i
    · subst hji
      exact hy.wpOp hi hT ⟨fun _ => hT, H⟩
    · have hjk := not_ready hok hw hr hj
      have h1 := H.2 j (ready_mono hj hji)
      obtain ⟨hjun, oj, hoj, _⟩ := mem_ready.1 hj
      have h2 := wpOp_putIf hoj (hfree j oj hoj hji hjun (not_hit hoj hr hj)) (fun cs b => hsel i oi cs b hi) (fun cs b => hsel j oj cs b hoj) hQ hy h1
      have hu2 : (L.setIfInBounds j true).getD k true = false := by rw [getD_set_ne true hjk]; exact hu
      refine wpOp_mono (fun a' w' h3 => ?_) h2
      have hT' : T w' := h3.2.1 ⟨k, hk, by rw [getD_set_ne true hjk, getD_set_ne true hki]; exact hu⟩
      refine ⟨fun _ => hT', ih (L.setIfInBounds j true) a' w' (fun m om hm hmi hun hno => hfree m om hm hmi ?_ hno) (ready_mono hr (Ne.symm hji)) hu2 h3.1 hT' ?_⟩
      · by_cases hjm : j = m
        · subst hjm; exact hjun
        · rw [getD_set_ne true hjm] at hun; exact hun
      · rw [Array.setIfInBounds_comm _ _ hji]
        exact h3.2.2
/-- An operation is taken first that yields its value in every world. -/
theorem first0 {i : Nat} {oi : Oper} {v : Value} (hi : ops[i]? = some oi) (hiK : ∀ k ∈ K, i ≠ k) (hsel : ∀ (j : Nat) (o : Oper) cs b, ops[j]? = some o → o.op ≠ .select cs b)
    (hQ : ∀ c a w, Q (.panic c) (a.put oi.dst v) w → Q (.panic c) a w) :
    ∀ (f : Nat) (L : Array Bool) (a : Act) (w : World),
      (∀ j oj, ops[j]? = some oj → j ≠ i → L.getD j true = false → (∀ e ∈ oj.after, Region.binds md e = true → e.on ≠ i) → oi.apart ops oj = true) →
      i ∈ Region.ready md ops L → YieldsIf P ops (fun _ => True) oi v a → (Due K L → T w) →
      wpAnyK P md ops Q K T f (L.setIfInBounds i true) (a.put oi.dst v) w → wpAnyK P md ops Q K T (f + 1) L a w := by
  have hdue : ∀ L : Array Bool, Due K L → Due K (L.setIfInBounds i true) := fun L ⟨k, hk, h⟩ => ⟨k, hk, by rw [getD_set_ne true (hiK k hk)]; exact h⟩
  have hdue' : ∀ L : Array Bool, Due K (L.setIfInBounds i true) → Due K L := fun L ⟨k, hk, h⟩ => ⟨k, hk, by rw [getD_set_ne true (hiK k hk)] at h; exact h⟩
  intro f
  induction f with
  | zero =>
    intro L a w _ hr hy hT H
    refine ⟨fun h => (by rw [h] at hr; cases hr), fun j hj => ?_⟩
    by_cases hji : j = i
    · subst hji
      exact hy.wpOp hi trivial ⟨fun h => hT (hdue' L h), H⟩
    · have := ready_mono hj hji
      rw [H.1] at this
      cases this
  | succ f ih =>
    intro L a w hfree hr hy hT H
    refine ⟨fun h => (by rw [h] at hr; cases hr), fun j hj => ?_⟩
    by_cases hji : j = i
    · subst hji
      exact hy.wpOp hi trivial ⟨fun h => hT (hdue' L h), H⟩
    · have h1 := H.2 j (ready_mono hj hji)
      obtain ⟨hjun, oj, hoj, _⟩ := mem_ready.1 hj
      have h2 := wpOp_putIf hoj (hfree j oj hoj hji hjun (not_hit hoj hr hj)) (fun cs b => hsel i oi cs b hi) (fun cs b => hsel j oj cs b hoj) hQ hy h1
      refine wpOp_mono (fun a' w' h3 => ?_) h2
      have hT' : Due K (L.setIfInBounds j true) → T w' := fun h => h3.2.1 (by rw [Array.setIfInBounds_comm _ _ (Ne.symm hji)]; exact hdue _ h)
      refine ⟨hT', ih (L.setIfInBounds j true) a' w' (fun m om hm hmi hun hno => hfree m om hm hmi ?_ hno) (ready_mono hr (Ne.symm hji)) h3.1 hT' ?_⟩
      · by_cases hjm : j = m
        · subst hjm; exact hjun
        · rw [getD_set_ne true hjm] at hun; exact hun
      · rw [Array.setIfInBounds_comm _ _ hji]
        exact h3.2.2
/-- The moves: take a load; take an operation that looks at no world; the one that may come up; the end; the beginning. -/
theorem load {i : Nat} (k : Nat) {oi ok : Oper} {v : Value} {f : Nat} {L : Array Bool} {a : Act} {w : World} (hi : ops[i]? = some oi) (hs : Region.noSelect ops = true) (hf : Region.free md ops L i = true) (hr : (Region.ready md ops L).contains i = true)
    (hk : K.contains k = true) (hki : i ≠ k) (hok : ops[k]? = some ok) (hw : ok.after.any (fun e => Region.binds md e && e.on == i) = true) (hu : L.getD k true = false)
    (hQ : ∀ c a w, Q (.panic c) (a.put oi.dst v) w → Q (.panic c) a w) (hy : YieldsIf P ops T oi v a) (hT : T w)
    (h : wpAnyK P md ops Q K T f (L.setIfInBounds i true) (a.put oi.dst v) w) : wpAnyK P md ops Q K T (f + 1) L a w :=
  first hi (by simpa using hk) hki hok hw (Region.noSelect_spec hs) hQ f L a w (Region.free_spec hi hf) (by simpa using hr) hu hy hT h
theorem plain {i : Nat} {oi : Oper} {v : Value} {f : Nat} {L : Array Bool} {a : Act} {w : World} (hi : ops[i]? = some oi) (hs : Region.noSelect ops = true) (hf : Region.free md ops L i = true) (hr : (Region.ready md ops L).contains i = true)
    (hiK : K.contains i = false) (hQ : ∀ c a w, Q (.panic c) (a.put oi.dst v) w → Q (.panic c) a w) (hy : YieldsIf P ops (fun _ => True) oi v a) (hT : Due K L → T w)
    (h : wpAnyK P md ops Q K T f (L.setIfInBounds i true) (a.put oi.dst v) w) : wpAnyK P md ops Q K T (f + 1) L a w :=
  first0 hi (fun k hk e => by subst e; simp [hk] at hiK) (Region.noSelect_spec hs) hQ f L a w (Region.free_spec hi hf) (by simpa using hr) hy hT h
theorem one {i : Nat} {o : Oper} {f : Nat} {L : Array Bool} {a : Act} {w : World} (hr : Region.ready md ops L = [i]) (ho : ops[i]? = some o)
    (h : ∀ K' : Act → World → Prop, Shut (∀ a w, (Due K (L.setIfInBounds i true) → T w) → wpAnyK P md ops Q K T f (L.setIfInBounds i true) a w → K' a w) → if Region.wanted o (yielded ops a.tmps) = true then Oper.wp P o a w K' Q else K' (a.put o.dst undef) w) : wpAnyK P md ops Q K T (f + 1) L a w :=
  ⟨fun h0 => (by rw [hr] at h0; cases h0), fun j hj => by
    rw [hr] at hj
    obtain rfl : j = i := by simpa using hj
    exact wpOp_step ho (fun K' hK => h K' (fun a w hS hW => hK a w ⟨hS, hW⟩))⟩
theorem done {L : Array Bool} {a : Act} {w : World} (hr : Region.ready md ops L = []) (h : Q .normal a w) : ∀ f, wpAnyK P md ops Q K T f L a w
  | 0 => ⟨hr, h⟩
  | _ + 1 => ⟨fun _ => h, by rw [hr]; simp⟩
theorem start {id : Nat} {a : Act} {w : World} (K : List Nat) (T : World → Prop) (hm : P.follows .mixedOrders = true) (h : wpAnyK P .any ops Q K T ops.size (Array.replicate ops.size false) a w.drew) : (Code.region id ops true).wp P Q a w :=
  wp_region_any hm (wpAnyK_any _ _ _ _ h)
theorem notDue {L : Array Bool} (h : K.all (fun k => L.getD k true) = true) : ¬ Due K L := fun ⟨k, hk, hu⟩ => by
  have := List.all_eq_true.1 h k hk
  rw [hu] at this
  cases this
end Kt
end Go.Proofs.YthkppbimkjmbnaaGreatDoor

/-
  ParseIntegrity: plain laws; the walk's boxes; a string that is no integrity descriptor's block.
-/
namespace Go.Proofs.YthkppbimkjmbnaaGreatDoor
set_option linter.unusedVariables false
open Go.RowKit
open Vs (bs by_)
namespace Vs
theorem word_at (b : List UInt8) (a : Nat) : word ((Pm.at_ b a 4 : Nat) : Int) = true := by
  have := Pm.at_lt b a 4
  exact (word_iff _).2 ⟨by omega, by omega⟩
theorem time_of {s : List UInt8} (h : (readSR s).2 = 0) : isTime (readSR s).1.1 = true := by
  unfold readSR at h ⊢
  by_cases h1 : s.length ≠ 12
  · rw [if_pos h1] at h; cases h
  · rw [if_neg h1] at h ⊢
    by_cases h2 : (rightOf s && okC (clockOf s)) = true
    · rw [if_pos h2] at h ⊢
      by_cases h3 : isTime (secs (clockOf s) - 60 * zoneOf s) = true
      · rw [if_pos h3]; exact h3
      · rw [if_neg h3] at h; cases h
    · rw [if_neg h2] at h; cases h
theorem pin_ok (b : List UInt8) (h1 : (readSR (sl b 16 12)).2 = 0) (h2 : nIn b ≤ 8) : okIn (pinV b) = decide (Pm.at_ b 40 8 < 4294967296) := by
  have hw : word 0 = true := by decide
  have hu : word ((Pm.at_ b 40 8 : Nat) : Int) = decide (Pm.at_ b 40 8 < 4294967296) := by
    rw [Bool.eq_iff_iff, word_iff, decide_eq_true_iff]
    omega
  unfold okIn pinV
  simp only [List.length_map, List.length_range, time_of h1, decide_eq_true h2, decide_true, Bool.true_and, List.all_append, List.all_cons, List.all_nil, Bool.and_true, hu]
  have e1 : ∀ (f : Nat → Nat) (n : Nat), ((List.range n).map (fun k => ((Pm.at_ b (f k) 4 : Nat) : Int))).all word = true := fun f n => by
    rw [List.all_eq_true]
    intro x hx
    obtain ⟨k, _, rfl⟩ := List.mem_map.1 hx
    exact word_at b _
  have e2 : ∀ (c : Prop) [Decidable c] (x : Nat), word (if c then ((Pm.at_ b x 4 : Nat) : Int) else 0) = true := fun c _ x => by
    split
    · exact word_at b x
    · exact hw
  rw [e1 (fun k => 80 + 4 * k), e1 (fun k => 80 + 4 * (nIn b + k)), e2, e2]
  simp only [Bool.true_and]
/-- ParseIntegrity's way: the number of 8 bytes is read, and all is looked at in the end. -/
theorem pin_eq {b : List UInt8} {loc : Int} (h : isB b 9 loc = true) : pinR b loc = if (readSR (sl b 16 12)).2 = 0 ∧ (Pm.readR b 40 8).2 = 0 ∧ nIn b ≤ 8 ∧ okIn (pinV b) = true then (pinV b, 0) else (i0, 10) := by
  have hl := isB_len h
  have hr : Pm.readR b 40 8 = if 9223372036854775807 < Pm.at_ b 40 8 then ((0 : Int), (7 : Int)) else (((Pm.at_ b 40 8 : Nat) : Int), (0 : Int)) := by
    unfold Pm.readR
    rw [if_neg (by omega)]
    rfl
  have hc : ((readSR (sl b 16 12)).2 = 0 ∧ Pm.at_ b 40 8 < 4294967296 ∧ nIn b ≤ 8) ↔ ((readSR (sl b 16 12)).2 = 0 ∧ (Pm.readR b 40 8).2 = 0 ∧ nIn b ≤ 8 ∧ okIn (pinV b) = true) := by
    constructor
    · rintro ⟨a1, a2, a3⟩
      refine ⟨a1, ?_, a3, ?_⟩
      · rw [hr, if_neg (by omega)]
      · rw [pin_ok b a1 a3]; exact decide_eq_true a2
    · rintro ⟨a1, _, a3, a4⟩
      rw [pin_ok b a1 a3] at a4
      exact ⟨a1, of_decide_eq_true a4, a3⟩
  unfold pinR
  rw [if_pos h]
  by_cases hh : (readSR (sl b 16 12)).2 = 0 ∧ Pm.at_ b 40 8 < 4294967296 ∧ nIn b ≤ 8
  · rw [if_pos hh, if_pos (hc.1 hh)]
  · rw [if_neg hh, if_neg (fun x => hh (hc.2 x))]
theorem readR_at {b : List UInt8} (hl : b.length = 2048) (h : (Pm.readR b 40 8).2 = 0) : (Pm.readR b 40 8).1 = ((Pm.at_ b 40 8 : Nat) : Int) := by
  have hr : Pm.readR b 40 8 = if 9223372036854775807 < Pm.at_ b 40 8 then ((0 : Int), (7 : Int)) else (((Pm.at_ b 40 8 : Nat) : Int), (0 : Int)) := by
    unfold Pm.readR
    rw [if_neg (by omega)]
    rfl
  rw [hr] at h ⊢
  by_cases hh : 9223372036854775807 < Pm.at_ b 40 8
  · rw [if_pos hh] at h; cases h
  · rw [if_neg hh]
/-- The empty contents. -/
def zI : Array Value := #[.int .i64 0, .bool false, .int .i64 0, .slice none 0 0, .slice none 0 0, .int .i64 0, .int .i64 0]
theorem zI_info : (Tryz.prog.info? 71).map (·.size) = some zI.size := by kernel_rfl
/-- The boxes of ParseIntegrity: the result's, the empty contents'. -/
structure PiB (w W : World) (Z : Array Value) : Prop where
  bel : Below w.heap.size w W
  hr : W.heap[w.heap.size]? = some (.cells Z 71 (0, 0))
  hn : W.heap[w.heap.size + 1]? = some (.cells Z 71 (0, 0))
theorem PiB.size {w W : World} {Z : Array Value} (h : PiB w W Z) : w.heap.size + 2 ≤ W.heap.size := by
  have := (Array.getElem?_eq_some_iff.1 h.hn).1
  omega
theorem PiB.grown {w W W' : World} {Z : Array Value} {row : Option Nat} (h : PiB w W Z) (hg : W.grownBy W' row) (hr : ∀ r, row = some r → w.heap.size + 2 ≤ r) : PiB w W' Z := by
  have hs := h.size
  refine ⟨h.bel.grown hg h.bel.size (fun k e => by have := hr k e; omega), (hg.block _ (by omega) (fun e => ?_)).trans h.hr, (hg.block _ (by omega) (fun e => ?_)).trans h.hn⟩
  · have := hr _ e.symm
    omega
  · have := hr _ e.symm
    omega
theorem PiB.below {w W W' : World} {Z : Array Value} (h : PiB w W Z) (hb : Below W.heap.size W W') : PiB w W' Z := h.grown (Kit.grown_of_below hb) (fun r e => by cases e)
theorem PiB.out {w W : World} {Z X : Array Value} (h : PiB w W Z) (hl : Z.size = X.size) : (W.setCells w.heap.size 0 X.toList).heap[w.heap.size]? = some (.cells X 71 (0, 0)) ∧ Below w.heap.size w (W.setCells w.heap.size 0 X.toList) :=
  ⟨row_put h.hr hl, below_put (Nat.le_refl _) _ _ _ h.bel⟩
theorem PiB.start (w : World) (Z : Array Value) : PiB w ((w.alloc (.cells Z 71)).alloc (.cells Z 71)) Z :=
  ⟨((Below.refl w.heap.size w).alloc (Nat.le_refl _) (.cells Z 71)).alloc (by simp) (.cells Z 71), heap_alloc2_old w _ _, heap_alloc2_new w _ _⟩
theorem ibox_load {W : World} {g : Nat} {a b c d e f h : Value} (hg : W.heap[g]? = some (.cells #[a, b, c, d, e, f, h] 71 (0, 0))) : (loadVar 71 ⟨g, 0, none⟩).run Tryz.prog W = .ok (.agg #[a, b, c, d, e, f, h]) W :=
  load_row (P := Tryz.prog) (n := 7) (cs := [a, b, c, d, e, f, h]) 71 _ hg Tryz.underlying71 rfl (by kernel_rfl) (show 0 + 7 ≤ 7 by decide)
/-- The way out with an error. -/
theorem PiB.fail {w W : World} {Z : Array Value} (h : PiB w W Z) (hZ : Z = zI) {p : In × Int} (hp : p = (i0, 10)) : ∃ vf vz, Ending.returned (.tuple #[.agg Z, .int .i64 10]) = .returned (.tuple #[.agg (inC p.1 vf vz), .int .i64 p.2]) ∧ Kit.Row (W.setCells w.heap.size 0 Z.toList) vf (Kit.izs p.1.free) ∧ Kit.Row (W.setCells w.heap.size 0 Z.toList) vz (Kit.izs p.1.size) ∧ Below w.heap.size w (W.setCells w.heap.size 0 Z.toList) := by
  subst hp
  exact ⟨.slice none 0 0, .slice none 0 0, by rw [hZ]; rfl, (Kit.RowS.nil _).1, (Kit.RowS.nil _).1, (h.out rfl).2⟩
end Vs

set_option maxHeartbeats 6400000 in
set_option maxRecDepth 100000 in
/-- ParseIntegrity, of a string that is no integrity descriptor's block. -/
theorem vParseIntegrity_no (s : ByteArray) (loc : Int) (w : World) (hs : s.size ≤ 9223372036854775807) (hi : Vs.isB (by_ s) 9 loc = false) :
    Calls Tryz.prog 38 #[.string s, .int .i64 loc] w fun e w' => ∃ vf vz, e = .returned (.tuple #[.agg (Vs.inC (Vs.pinR (by_ s) loc).1 vf vz), .int .i64 (Vs.pinR (by_ s) loc).2]) ∧ Kit.Row w' vf (Kit.izs (Vs.pinR (by_ s) loc).1.free) ∧ Kit.Row w' vz (Kit.izs (Vs.pinR (by_ s) loc).1.size) ∧ Below w.heap.size w w' := by
  have CI := Lib.hid (fun W => vIs_any s 9 loc W hs)
  rw [hi] at CI
  have HR := Lib.hid (show Vs.pinR (by_ s) loc = (Vs.i0, 10) from if_neg (by rw [hi]; decide))
  obtain ⟨Z, hZ⟩ : ∃ Z, Z = Vs.zI := ⟨_, rfl⟩
  have HS := Lib.hid (Vs.PiB.start w Z)
  have HZ1 := Lib.hid (show Z.all (·.oneCell') = true by rw [hZ]; unfold Vs.zI; simp [Value.oneCell'])
  have HZI := Lib.hid (show (Tryz.prog.info? 71).map (·.size) = some Z.size by rw [hZ]; exact Vs.zI_info)
  have HZL := Lib.hid (show (#[.int .i64 0, .bool false, .int .i64 0, .slice none 0 0, .slice none 0 0, .int .i64 0, .int .i64 0] : Array Value) = Z from hZ.symm)
  have HLD := Lib.hid (fun (W : World) (g : Nat) (h : W.heap[g]? = some (.cells Z 71 (0, 0))) => show (loadVar 71 ⟨g, 0, none⟩).run Tryz.prog W = .ok (.agg Z) W by rw [hZ] at h ⊢; exact Vs.ibox_load h)
  have HZE := Lib.hid hZ
  have hz7 : Z.size = 7 := by rw [hZ]; rfl
  clear hi hZ
  go_enter Tryz.func38, Tryz.ntmps38
  go_upto_region 2 with fail
  rw [HZL.out]
  generalize ((w.alloc (.cells Z 71)).alloc (.cells Z 71)) = W1 at *
  go_wp2_with fail
  with_reducible refine (CI.out _).mono ?_
  rintro e w2 ⟨rfl, hb2⟩
  have HS2 := Lib.hid (HS.out.below hb2)
  clear hb2 HS
  have HL2 := Lib.hid (HLD.out _ _ HS2.out.hn)
  have hst := Vs.run_put (P := Tryz.prog) HS2.out.hr Z rfl HZ1.out
  go_wp2_with (refine wpList_load_at 71 _ rfl (w.heap.size + 1) 0 rfl _ HL2.out (by rfl) ?_)
  exact bodyPost_ret (v := .tuple #[.agg Z, .int .i64 10]) (res_ct rfl _ _ w.heap.size 71 Z (0, 0) _ rfl (HS2.out.out rfl).1 Tryz.underlying71 rfl HZI.out _ rfl) rfl (HS2.out.fail HZE.out HR.out)
end Go.Proofs.YthkppbimkjmbnaaGreatDoor

/-
  ParseIntegrity: the lists under way, plain.
-/
namespace Go.Proofs.YthkppbimkjmbnaaGreatDoor
set_option linter.unusedVariables false
open Go.RowKit
open Vs (bs by_)
namespace Vs
/-- The contents under way: the box g and its two lists, in rows of their own. -/
structure PiL (w W : World) (Z : Array Value) (g : Nat) (st u : Int) (c : Bool) (vf vz : Value) (F G : List Int) : Prop where
  box : PiB w W Z
  lt : w.heap.size + 2 ≤ g
  cell : W.heap[g]? = some (.cells #[.int .i64 st, .bool c, .int .i64 u, vf, vz, .int .i64 0, .int .i64 0] 71 (0, 0))
  of : W.ownsRow (g + 1) 3 1 vf F.length (Kit.izs F)
  oz : W.ownsRow (g + 1) 3 1 vz G.length (Kit.izs G)
  ne : vf.ownBlock = none ∨ vf.ownBlock ≠ vz.ownBlock
section
variable {w W W1 W2 : World} {Z : Array Value} {g : Nat} {st u : Int} {c : Bool} {vf vz : Value} {F G : List Int}
theorem PiL.glt (h : PiL w W Z g st u c vf vz F G) : g < W.heap.size := (Array.getElem?_eq_some_iff.1 h.cell).1
theorem PiL.quiet (h : PiL w W Z g st u c vf vz F G) (hg : W.grownBy W1 none) : PiL w W1 Z g st u c vf vz F G :=
  ⟨h.box.grown hg (fun r e => by cases e), h.lt, (hg.block g h.glt (by simp)).trans h.cell, h.of.kept hg (by by_cases e : vf.ownBlock = none; exact .inl e; exact .inr e), h.oz.kept hg (by by_cases e : vz.ownBlock = none; exact .inl e; exact .inr e), h.ne⟩
theorem PiL.neF (h : PiL w W Z g st u c vf vz F G) : vz.ownBlock = none ∨ vz.ownBlock ≠ vf.ownBlock := by
  rcases h.ne with e | e
  · by_cases hz : vz.ownBlock = none
    · exact .inl hz
    · exact .inr (by rw [e]; exact hz)
  · exact .inr (Ne.symm e)
theorem PiL.far (h : PiL w W Z g st u c vf vz F G) : some g ≠ vf.ownBlock ∧ some g ≠ vz.ownBlock := by
  constructor
  · intro e
    have := (h.of.lt g e.symm).1
    omega
  · intro e
    have := (h.oz.lt g e.symm).1
    omega
/-- The first list has grown. -/
theorem PiL.app (h : PiL w W Z g st u c vf vz F G) (hg : W.grownBy W1 vf.ownBlock) {r n : Nat} {cf : Nat} {k : Nat} {xs : List Value} (h1 : W1.ownsRow (g + 1) 3 1 (.slice (some ⟨r, 0, none⟩) n cf) k xs) (hat : vf.ownBlock = some r ∨ r = W.heap.size) :
    PiB w W1 Z ∧ W1.heap[g]? = some (.cells #[.int .i64 st, .bool c, .int .i64 u, vf, vz, .int .i64 0, .int .i64 0] 71 (0, 0)) ∧ W1.ownsRow (g + 1) 3 1 vz G.length (Kit.izs G) ∧ some r ≠ vz.ownBlock := by
  have hl := h.lt
  refine ⟨h.box.grown hg (fun r' e => ?_), (hg.block g h.glt h.far.1).trans h.cell, h.oz.kept hg h.neF, fun e => ?_⟩
  · have := (h.of.lt r' e).1
    omega
  · rcases hat with e2 | e2
    · rcases h.ne with e3 | e3
      · rw [e3] at e2; cases e2
      · exact e3 (e2.trans e)
    · have := (h.oz.lt r e.symm).2
      omega
theorem PiL.row2 (h : PiL w W Z g st u c vf vz F G) {o : Obj} (hg : W.grownBy W1 vf.ownBlock) (hg2 : (W1.alloc o).grownBy W2 vz.ownBlock) : W2.heap[g]? = some (.cells #[.int .i64 st, .bool c, .int .i64 u, vf, vz, .int .i64 0, .int .i64 0] 71 (0, 0)) := by
  have hc := (hg.block g h.glt h.far.1).trans h.cell
  have hgl := (Array.getElem?_eq_some_iff.1 hc).1
  have ha := Kit.grown_of_below ((Below.refl W1.heap.size W1).alloc (Nat.le_refl _) o)
  exact (hg2.block g (by simp; omega) h.far.2).trans ((ha.block g hgl (by simp)).trans hc)
/-- Both lists have grown, and the box has the new ones. -/
theorem PiL.step (h : PiL w W Z g st u c vf vz F G) {o : Obj} (hg : W.grownBy W1 vf.ownBlock) {r r' : Nat} {cf cz : Nat} {x y : Int}
    (h1 : W1.ownsRow (g + 1) 3 1 (.slice (some ⟨r, 0, none⟩) (F.length + 1) cf) (F.length + 1) (Kit.izs F ++ [.int .i64 x])) (hat : vf.ownBlock = some r ∨ r = W.heap.size)
    (hg2 : (W1.alloc o).grownBy W2 vz.ownBlock) (h2 : W2.ownsRow (g + 1) 3 1 (.slice (some ⟨r', 0, none⟩) (G.length + 1) cz) (G.length + 1) (Kit.izs G ++ [.int .i64 y])) (hat' : vz.ownBlock = some r' ∨ r' = W1.heap.size + 1) :
    PiL w ((W2.setCell ⟨g, 3, none⟩ (.slice (some ⟨r, 0, none⟩) (F.length + 1) cf)).setCell ⟨g, 4, none⟩ (.slice (some ⟨r', 0, none⟩) (G.length + 1) cz)) Z g st u c (.slice (some ⟨r, 0, none⟩) (F.length + 1) cf) (.slice (some ⟨r', 0, none⟩) (G.length + 1) cz) (F ++ [x]) (G ++ [y]) := by
  obtain ⟨hb, hc, hz, hne⟩ := h.app hg h1 hat
  have hl := h.lt
  have ha := Kit.grown_of_below ((Below.refl W1.heap.size W1).alloc (Nat.le_refl _) o)
  have hs1 : (W1.alloc o).heap.size = W1.heap.size + 1 := by simp
  have hrlt := (h1.lt r rfl).2
  have hr1 := (h1.lt r rfl).1
  have hr2 := (h2.lt r' rfl).1
  have hgl := (Array.getElem?_eq_some_iff.1 hc).1
  have hb2 : PiB w W2 Z := (hb.grown ha (fun r e => by cases e)).grown hg2 (fun r e => by have := (hz.lt r e).1; omega)
  have hfz : some g ≠ vz.ownBlock := h.far.2
  have hc2 := (hg2.block g (by omega) hfz).trans ((ha.block g hgl (by simp)).trans hc)
  have hF2 : W2.ownsRow (g + 1) 3 1 (.slice (some ⟨r, 0, none⟩) (F.length + 1) cf) (F.length + 1) (Kit.izs F ++ [.int .i64 x]) := (h1.alloc o).kept hg2 (.inr hne)
  have gs : ∀ (V : World) (i : Nat) (v : Value), V.grownBy (V.setCell ⟨g, i, none⟩ v) (some g) := fun V i v => ⟨rfl, rfl, rfl, by simp [World.setCell], fun k _ hk => Below.heap_setCell _ _ _ _ (fun e => hk (by simp [e]))⟩
  have e3 := heap_setCell_same _ _ 4 _ _ (Value.slice (some ⟨r', 0, none⟩) (G.length + 1) cz) (heap_setCell_same _ _ 3 _ _ (Value.slice (some ⟨r, 0, none⟩) (F.length + 1) cf) hc2)
  refine ⟨(hb2.grown (gs _ _ _) (fun k e => by cases e; omega)).grown (gs _ _ _) (fun k e => by cases e; omega), hl, e3, ?_, ?_, .inr ?_⟩
  · rw [List.length_append, Kit.izs_append]
    exact (hF2.kept (gs _ _ _) (.inr (fun e => absurd (show r = g from Option.some.inj e) (by omega)))).kept (gs _ _ _) (.inr (fun e => absurd (show r = g from Option.some.inj e) (by omega)))
  · rw [List.length_append, Kit.izs_append]
    exact (h2.kept (gs _ _ _) (.inr (fun e => absurd (show r' = g from Option.some.inj e) (by omega)))).kept (gs _ _ _) (.inr (fun e => absurd (show r' = g from Option.some.inj e) (by omega)))
  · intro e
    have e' : r = r' := by simpa [Value.ownBlock] using e
    subst e'
    rcases hat' with e2 | e2
    · exact hne e2.symm
    · omega
theorem grown_put (g : Nat) : ∀ (vs : List Value) (o : Nat) (V : World), V.grownBy (V.setCells g o vs) (some g)
  | [], _, V => World.grownBy.refl V _
  | v :: vs, o, V => World.grownBy.trans (show V.grownBy (V.setCell ⟨g, o, none⟩ v) (some g) from ⟨rfl, rfl, rfl, by simp [World.setCell], fun k _ hk => Below.heap_setCell _ _ _ _ (fun e => hk (by simp [e]))⟩) (grown_put g vs (o + 1) _)
/-- The contents in their box, done. -/
structure PiF (w W : World) (Z : Array Value) (g : Nat) (X : Array Value) (vf vz : Value) (F G : List Int) : Prop where
  box : PiB w W Z
  lt : w.heap.size + 2 ≤ g
  row : W.heap[g]? = some (.cells X 71 (0, 0))
  of : W.ownsRow (g + 1) 3 1 vf F.length (Kit.izs F)
  oz : W.ownsRow (g + 1) 3 1 vz G.length (Kit.izs G)
theorem PiL.fin (h : PiL w W Z g st u c vf vz F G) : PiF w W Z g #[.int .i64 st, .bool c, .int .i64 u, vf, vz, .int .i64 0, .int .i64 0] vf vz F G := ⟨h.box, h.lt, h.cell, h.of, h.oz⟩
theorem PiL.fin2 (h : PiL w W Z g st u c vf vz F G) (a b : Int) : PiF w ((W.setCell ⟨g, 5, none⟩ (.int .i64 a)).setCell ⟨g, 6, none⟩ (.int .i64 b)) Z g #[.int .i64 st, .bool c, .int .i64 u, vf, vz, .int .i64 a, .int .i64 b] vf vz F G := by
  have hl := h.lt
  have gs : ∀ (V : World) (i : Nat) (v : Value), V.grownBy (V.setCell ⟨g, i, none⟩ v) (some g) := fun V i v => ⟨rfl, rfl, rfl, by simp [World.setCell], fun k _ hk => Below.heap_setCell _ _ _ _ (fun e => hk (by simp [e]))⟩
  refine ⟨(h.box.grown (gs _ _ _) (fun k e => by cases e; omega)).grown (gs _ _ _) (fun k e => by cases e; omega), hl, heap_setCell_same _ _ 6 _ _ _ (heap_setCell_same _ _ 5 _ _ _ h.cell), ?_, ?_⟩
  · exact (h.of.kept (gs _ _ _) (.inr (Ne.symm h.far.1))).kept (gs _ _ _) (.inr (Ne.symm h.far.1))
  · exact (h.oz.kept (gs _ _ _) (.inr (Ne.symm h.far.2))).kept (gs _ _ _) (.inr (Ne.symm h.far.2))
theorem PiF.below {X : Array Value} (h : PiF w W Z g X vf vz F G) (hb : Below W.heap.size W W1) : PiF w W1 Z g X vf vz F G :=
  ⟨h.box.below hb, h.lt, (hb.block g (Array.getElem?_eq_some_iff.1 h.row).1).trans h.row, Kit.own_below h.of hb, Kit.own_below h.oz hb⟩
/-- The way out with the contents. -/
theorem PiF.win {V : In} {X : Array Value} (h : PiF w W Z g X vf vz V.free V.size) (hX : X = inC V vf vz) {p : In × Int} (hp : p = (V, 0)) (hl : Z.size = X.size) : ∃ vf vz, Ending.returned (.tuple #[.agg X, .int .i64 0]) = .returned (.tuple #[.agg (inC p.1 vf vz), .int .i64 p.2]) ∧ Kit.Row (W.setCells w.heap.size 0 X.toList) vf (Kit.izs p.1.free) ∧ Kit.Row (W.setCells w.heap.size 0 X.toList) vz (Kit.izs p.1.size) ∧ Below w.heap.size w (W.setCells w.heap.size 0 X.toList) := by
  subst hp
  have hg := grown_put w.heap.size X.toList 0 W
  have hlt := h.lt
  refine ⟨vf, vz, by rw [hX], Kit.Row.of_own (h.of.kept hg (.inr (fun e => ?_))), Kit.Row.of_own (h.oz.kept hg (.inr (fun e => ?_))), (h.box.out hl).2⟩
  · have := (h.of.lt _ e).1
    omega
  · have := (h.oz.lt _ e).1
    omega
end
end Vs
end Go.Proofs.YthkppbimkjmbnaaGreatDoor
