/-
  Regions that draw their order, in a round of a range over a function: quiet ones; a quiet head with one operation behind it that waits for all.
-/
import Derived.Sort.QuietIn
import Derived.RangeFuncCalls
import Derived.Test.YtlhechlbmbjffaaDoorKit
namespace Go.Proofs.YtlhechlbmbjffaaDoor
namespace Rd
variable {F : Fence} {n k : Nat} {P : Program} {ops : Array Oper} {md : Region.Mode} {C : World → Prop}
/-- No deferred call is made. -/
def plainB (l : List Oper) : Bool := l.all fun o => match o.op with | .defer _ => false | _ => true
theorem plainB_at {l : List Oper} (h : plainB l = true) {i : Nat} {o : Oper} (ho : l[i]? = some o) (c : Call) : o.op ≠ .defer c := fun e => by
  have := List.all_eq_true.1 h o (List.mem_of_getElem? ho)
  rw [e] at this
  cases this
theorem opLift {o : Oper} {a : Act} {w : World} {K : Act → World → Prop} {Q : Exit → Act → World → Prop} (hro : F.round = none) (hd : ∀ c, o.op ≠ .defer c) (h : o.wpIn F n P a w K Q) : o.wpIn (F.inRound k) n P a w K Q := by
  unfold Oper.wpIn at *
  refine ⟨h.1, ?_⟩
  have h2 := h.2
  rw [hro, Oper.semAt_none] at h2
  rw [Fence.inRound_round, Oper.semAt_some _ _ _ hd]
  exact h2
theorem opInLift {l : List Oper} {i : Nat} {a : Act} {w : World} {K : Act → World → Prop} {Q : Exit → Act → World → Prop} (hro : F.round = none) (hd : plainB l = true) (h : wpOpIn F n P l.toArray Q i K a w) : wpOpIn (F.inRound k) n P l.toArray Q i K a w := by
  unfold wpOpIn at *
  split
  · rename_i ho
    simp only [ho] at h
    exact h
  · rename_i o ho
    simp only [ho] at h
    split
    · rename_i hw
      simp only [hw, if_true] at h
      exact opLift hro (plainB_at hd (by simpa using ho)) h
    · rename_i hw
      simp only [hw] at h
      exact h
theorem anyLift {l : List Oper} {Q : Exit → Act → World → Prop} (hro : F.round = none) (hd : plainB l = true) : ∀ (f : Nat) (listed : Array Bool) (a : Act) (w : World), wpAnyIn F n P md l.toArray Q f listed a w → wpAnyIn (F.inRound k) n P md l.toArray Q f listed a w
  | 0, _, _, _, h => h
  | f + 1, _, _, _, h => ⟨h.1, fun i hi => wpOpIn_mono (fun a w h' => anyLift hro hd f _ a w h') (opInLift hro hd (h.2 i hi))⟩
/-- A quiet region. -/
theorem quiet {id : Nat} {l : List Oper} {Q : Exit → Act → World → Prop} {a : Act} {w : World} (hro : F.round = none) (hm : P.follows .mixedOrders = true) (hB : Region.lexB .any l.toArray = true) (hd : plainB l = true)
    (h : wpQuietIn F n P l.toArray (fun w' => ∃ j, w' = w.drewN j) (fun a' => ∀ w', (∃ j, w' = w.drewN j) → Q .normal a' w') l a) : (Code.region id l.toArray true).wpIn (F.inRound k) n P Q a w := by
  simp only [Region.lexB, Bool.and_eq_true] at hB
  refine wpIn_region_any hm (anyLift hro hd _ _ _ _ (wpAnyIn_of_quiet (C := fun w' => ∃ j, w' = w.drewN j) (Q := fun a' => ∀ w', (∃ j, w' = w.drewN j) → Q .normal a' w') hro (fun _ w' hw' h => h w' hw') _ _ _ _ ⟨1, rfl⟩ ?_))
  have := wpAnyQIn_lex (F := F) (n := n) (md := .any) hB.1 l 0 (Array.replicate l.toArray.size false) a (by simp) (by simpa using hB.2) h
  simpa using this
/-- Operations with guards or edges ahead are none. -/
def forth (l : List Oper) : Bool := (List.range l.length).all fun j => match l[j]? with
  | some o => o.guard.isNone && o.after.all fun e => decide (e.on < j)
  | none => false
theorem forth_at {l : List Oper} (h : forth l = true) {j : Nat} {o : Oper} (ho : l[j]? = some o) : o.guard = none ∧ ∀ e ∈ o.after, e.on < j := by
  have hj : j < l.length := (List.getElem?_eq_some_iff.1 ho).1
  have := List.all_eq_true.1 h j (List.mem_range.2 hj)
  rw [ho] at this
  simp only [Bool.and_eq_true] at this
  refine ⟨by simpa using this.1, fun e he => ?_⟩
  have h2 := this.2
  rw [Array.all_eq_true_iff_forall_mem] at h2
  simpa using h2 e he
def waits (o : Oper) (j : Nat) : Bool := o.after.any fun e => Region.binds .any e && e.on == j
theorem waits_at {o : Oper} {j : Nat} (h : waits o j = true) : ∃ e ∈ o.after, Region.binds .any e = true ∧ e.on = j := by
  obtain ⟨e, he, hb⟩ := Array.any_eq_true'.1 h
  simp only [Bool.and_eq_true, beq_iff_eq] at hb
  exact ⟨e, he, hb.1, hb.2⟩
/-- The last operation waits, in the end, for each one ahead of it. -/
def awaits (l : List Oper) (o : Oper) : Bool := (o.after.all fun e => decide (e.on < l.length)) && (List.range l.length).all fun j => waits o j || (List.range l.length).any fun i => decide (j < i) && (match l[i]? with | some oi => waits oi j | none => false)
/-- What is listed has what it waits for. -/
def Shut (l : List Oper) (L : List Bool) : Prop := ∀ (j : Nat) (oj : Oper), l[j]? = some oj → L[j]? = some true → ∀ e ∈ oj.after, Region.binds .any e = true → L[e.on]? = some true
theorem awaits_lt {l : List Oper} {o : Oper} (h : awaits l o = true) : ∀ e ∈ o.after, e.on < l.length := fun e he => by
  rw [awaits, Bool.and_eq_true] at h
  have h2 := h.1
  rw [Array.all_eq_true_iff_forall_mem] at h2
  simpa using h2 e he
theorem awaits_all {l : List Oper} {o : Oper} {L : List Bool} (h : awaits l o = true) (hs : Shut l L) (ho : ∀ e ∈ o.after, Region.binds .any e = true → L[e.on]? = some true) : ∀ d j, l.length - j = d → j < l.length → L[j]? = some true := by
  intro d
  induction d using Nat.strongRecOn with
  | _ d ih =>
    intro j hd hj
    rw [awaits, Bool.and_eq_true] at h
    have := List.all_eq_true.1 h.2 j (List.mem_range.2 hj)
    rw [Bool.or_eq_true] at this
    rcases this with h1 | h1
    · obtain ⟨e, he, hb, rfl⟩ := waits_at h1
      exact ho e he hb
    · obtain ⟨i, hi, h2⟩ := List.any_eq_true.1 h1
      rw [List.mem_range] at hi
      rw [Bool.and_eq_true, decide_eq_true_eq] at h2
      obtain ⟨hji, h3⟩ := h2
      have hli : l[i]? = some l[i] := List.getElem?_eq_getElem hi
      rw [hli] at h3
      obtain ⟨e, he, hb, rfl⟩ := waits_at h3
      exact hs i _ hli (ih (l.length - i) (by omega) i rfl hi) e he hb
theorem ready_some {l : List Oper} (hf : forth l = true) (L : List Bool) (hL : L.length = l.length) : ∀ j : Nat, L[j]? = some false → ∃ i, i ∈ Region.ready .any l.toArray L.toArray := by
  intro j
  induction j using Nat.strongRecOn with
  | _ j ih =>
    intro hj
    have hjl : j < l.length := by rw [← hL]; exact (List.getElem?_eq_some_iff.1 hj).1
    by_cases hall : ∀ e ∈ (l[j]).after, Region.binds .any e = true → L.toArray.getD e.on false = true
    · exact ⟨j, mem_ready.2 ⟨by simp [Array.getD_eq_getD_getElem?, hj], l[j], by simp [hjl], hall⟩⟩
    · simp only [Classical.not_forall] at hall
      obtain ⟨e, he, hb, hx⟩ := hall
      have hlt := (forth_at hf (o := l[j]) (j := j) (by simp [hjl])).2 e he
      have hel : e.on < L.length := by omega
      refine ih e.on hlt ?_
      have : L[e.on] = false := by
        simp [Array.getD_eq_getD_getElem?, hel] at hx
        exact hx
      rw [List.getElem?_eq_getElem hel, this]
theorem count_pos {L : List Bool} {f : Nat} (h : L.count false = f + 1) : ∃ j : Nat, L[j]? = some false := by
  have : false ∈ L := List.count_pos_iff.1 (by omega)
  exact List.getElem?_of_mem this
theorem tailAny {l : List Oper} {o : Oper} {Q : Exit → Act → World → Prop} (hro : F.round = none) (hf : forth l = true) (hg : o.guard = none) (haw : awaits l o = true) :
    ∀ (f : Nat) (L : List Bool) (a : Act) (w : World), L.length = l.length → L.count false = f → Shut l L → C w → wpAnyQIn F n P .any l.toArray C (fun a' => ∀ w', C w' → o.wpIn F n P a' w' (fun a w => Q .normal a w) Q) f L.toArray a →
      wpAnyIn F n P .any (l ++ [o]).toArray Q (f + 1) (L ++ [false]).toArray a w := by
  intro f
  induction f with
  | zero =>
    intro L a w hL hc hsh hw h
    have hall : ∀ j, j < L.length → L[j]? = some true := fun j hj => by
      have h1 : L[j] ≠ false := fun e => by
        have : 0 < L.count false := List.count_pos_iff.2 (e ▸ List.getElem_mem hj)
        omega
      rw [List.getElem?_eq_getElem hj]
      cases hb : L[j] with
      | true => rfl
      | false => exact absurd hb h1
    have hm : l.length ∈ Region.ready .any (l ++ [o]).toArray (L ++ [false]).toArray := mem_ready.2 ⟨by simp [Array.getD_eq_getD_getElem?, ← hL], o, by simp, fun e he hb => by
      have h1 := awaits_lt haw e he
      have := hall e.on (by omega)
      simp [Array.getD_eq_getD_getElem?, List.getElem?_append_left (show e.on < L.length by omega), this]⟩
    refine ⟨fun e => by (rw [e] at hm; cases hm), fun i hi => ?_⟩
    obtain ⟨hu, oi, hoi, _⟩ := mem_ready.1 hi
    have hil : i < (l ++ [o]).length := by
      have := (Array.getElem?_eq_some_iff.1 hoi).1
      simpa using this
    have him : i = l.length := by
      rcases Nat.lt_or_ge i l.length with h1 | h1
      · have := hall i (by omega)
        simp [Array.getD_eq_getD_getElem?, List.getElem?_append_left (show i < L.length by omega), this] at hu
      · simp at hil
        omega
    subst him
    unfold wpOpIn
    have e1 : (l ++ [o]).toArray[l.length]? = some o := by simp
    rw [e1]
    simp only []
    rw [if_pos (by simp [Region.wanted, hg])]
    refine Oper.wpIn_mono (fun a w hq => ⟨?_, hq⟩) (h.2 w hw)
    rw [List.eq_nil_iff_forall_not_mem]
    intro j hj
    obtain ⟨hu, oj, hoj, _⟩ := mem_ready.1 hj
    have hjl : j < (l ++ [o]).length := by
      have := (Array.getElem?_eq_some_iff.1 hoj).1
      simpa using this
    rw [List.length_append, List.length_singleton] at hjl
    rcases Nat.lt_or_ge j l.length with h1 | h1
    · have := hall j (by omega)
      simp [Array.getD_eq_getD_getElem?, List.getElem?_set_ne (show l.length ≠ j by omega), List.getElem?_append_left (show j < L.length by omega), this] at hu
    · obtain rfl : j = l.length := by omega
      simp [Array.getD_eq_getD_getElem?, hL] at hu
  | succ f ih =>
    intro L a w hL hc hsh hw h
    obtain ⟨j0, hj0⟩ := count_pos hc
    have sub : ∀ i, i < l.length → (i ∈ Region.ready .any (l ++ [o]).toArray (L ++ [false]).toArray ↔ i ∈ Region.ready .any l.toArray L.toArray) := fun i hi => by
      rw [mem_ready, mem_ready]
      have e1 : (l ++ [o]).toArray[i]? = l.toArray[i]? := by simp [List.getElem?_append_left hi]
      have e2 : ((L ++ [false]).toArray.getD i true = false) = (L.toArray.getD i true = false) := by
        simp [Array.getD_eq_getD_getElem?, List.getElem?_append_left (show i < L.length by omega)]
      rw [e1, e2]
      constructor
      · rintro ⟨hu, oi, hoi, ha⟩
        refine ⟨hu, oi, hoi, fun e he hb => ?_⟩
        have hlt := (forth_at hf (o := oi) (j := i) (by simpa using hoi)).2 e he
        have := ha e he hb
        simp only [Array.getD_eq_getD_getElem?, List.getElem?_toArray, List.getElem?_append_left (show e.on < L.length by omega)] at this ⊢
        exact this
      · rintro ⟨hu, oi, hoi, ha⟩
        refine ⟨hu, oi, hoi, fun e he hb => ?_⟩
        have hlt := (forth_at hf (o := oi) (j := i) (by simpa using hoi)).2 e he
        have := ha e he hb
        simp only [Array.getD_eq_getD_getElem?, List.getElem?_toArray, List.getElem?_append_left (show e.on < L.length by omega)] at this ⊢
        exact this
    have hlt : ∀ i, i ∈ Region.ready .any (l ++ [o]).toArray (L ++ [false]).toArray → i < l.length := fun i hi => by
      obtain ⟨hu, oi, hoi, ha⟩ := mem_ready.1 hi
      have hil : i < (l ++ [o]).length := by
        have := (Array.getElem?_eq_some_iff.1 hoi).1
        simpa using this
      rw [List.length_append, List.length_singleton] at hil
      rcases Nat.lt_or_ge i l.length with h1 | h1
      · exact h1
      · obtain rfl : i = l.length := by omega
        have : oi = o := by simpa using hoi.symm
        subst this
        have hj0l : j0 < L.length := (List.getElem?_eq_some_iff.1 hj0).1
        have hall := awaits_all haw hsh (fun e he hb => by
          have h1 := awaits_lt haw e he
          have := ha e he hb
          simp only [Array.getD_eq_getD_getElem?, List.getElem?_toArray, List.getElem?_append_left (show e.on < L.length by omega)] at this
          rw [List.getElem?_eq_getElem (show e.on < L.length by omega)] at this ⊢
          simpa using this) _ j0 rfl (by omega)
        rw [hj0] at hall
        cases hall
    obtain ⟨i0, hi0⟩ := ready_some hf L hL j0 hj0
    have hi0' : i0 < l.length := by
      obtain ⟨_, oi, hoi, _⟩ := mem_ready.1 hi0
      have := (Array.getElem?_eq_some_iff.1 hoi).1
      simpa using this
    refine ⟨fun e => by (have := (sub i0 hi0').2 hi0; rw [e] at this; cases this), fun i hi => ?_⟩
    have hil := hlt i hi
    have hir := (sub i hil).1 hi
    have hq := h.2 i hir
    have hset : ((L ++ [false]).toArray.setIfInBounds i true) = (L.set i true ++ [false]).toArray := by
      rw [List.setIfInBounds_toArray, List.set_append_left _ _ (by omega)]
    have hfalse : L[i]? = some false := by
      obtain ⟨hu, _⟩ := mem_ready.1 hir
      have hiL : i < L.length := by omega
      simp [Array.getD_eq_getD_getElem?, hiL] at hu
      rw [List.getElem?_eq_getElem hiL, hu]
    have hcount : (L.set i true).count false = f := by
      have hiL : i < L.length := by omega
      have h0 : L[i] = false := by
        rw [List.getElem?_eq_getElem hiL] at hfalse
        exact Option.some.inj hfalse
      rw [List.count_set hiL, hc]
      simp [h0]
    have hshut : Shut l (L.set i true) := by
      have hold : ∀ k : Nat, L[k]? = some true → (L.set i true)[k]? = some true := fun k hk => by
        by_cases hik : i = k
        · subst hik
          rw [List.getElem?_set_self (by omega)]
        · rw [List.getElem?_set_ne hik, hk]
      intro j oj hoj hj e he hb
      by_cases hij : i = j
      · subst hij
        obtain ⟨_, oi, hoi, ha⟩ := mem_ready.1 hir
        have : oi = oj := by
          have h1 : l[i]? = some oi := by simpa using hoi
          rw [h1] at hoj
          exact Option.some.inj hoj
        subst this
        have hlt := (forth_at hf hoj).2 e he
        have := ha e he hb
        simp only [Array.getD_eq_getD_getElem?, List.getElem?_toArray] at this
        rw [List.getElem?_eq_getElem (show e.on < L.length by omega)] at this
        refine hold _ ?_
        rw [List.getElem?_eq_getElem (show e.on < L.length by omega)]
        simpa using this
      · rw [List.getElem?_set_ne hij] at hj
        exact hold _ (hsh j oj hoj hj e he hb)
    have hw2 := wpOpIn_of_qOpIn (Q' := Q) (K' := wpAnyIn F n P .any (l ++ [o]).toArray Q (f + 1) (L.set i true ++ [false]).toArray) hro hw (fun a' w' hw' hh => ih (L.set i true) a' w' (by simpa using hL) hcount hshut hw' hh) (by
      have := hq
      rwa [List.setIfInBounds_toArray] at this)
    rw [hset]
    unfold wpOpIn at hw2 ⊢
    have e1 : (l ++ [o]).toArray[i]? = some l[i] := by simp [List.getElem?_append_left hil, hil]
    have e2 : l.toArray[i]? = some l[i] := by simp [hil]
    have hgi := (forth_at hf (o := l[i]) (j := i) (by simp [hil])).1
    rw [e2] at hw2
    rw [e1]
    simp only [] at hw2 ⊢
    rw [if_pos (by simp [Region.wanted, hgi])] at hw2 ⊢
    exact hw2
/-- A quiet head, and one operation behind it that waits for all. -/
theorem tail {id : Nat} {L : List Oper} {Q : Exit → Act → World → Prop} {a : Act} {w : World} (m : Nat) (o : Oper) (hL : L = L.take m ++ [o]) (hro : F.round = none) (hm : P.follows .mixedOrders = true) (hB : Region.lexB .any (L.take m).toArray = true)
    (hf : forth (L.take m) = true) (hg : o.guard = none) (haw : awaits (L.take m) o = true) (hd : plainB L = true)
    (h : wpQuietIn F n P (L.take m).toArray (fun w' => ∃ j, w' = w.drewN j) (fun a' => ∀ w', (∃ j, w' = w.drewN j) → wpListIn F n P L.toArray Q [o] a' w') (L.take m) a) : (Code.region id L.toArray true).wpIn (F.inRound k) n P Q a w := by
  simp only [Region.lexB, Bool.and_eq_true] at hB
  generalize hl : L.take m = l at *
  subst hL
  have h1 := wpAnyQIn_lex (F := F) (n := n) (md := .any) hB.1 l 0 (List.replicate l.length false).toArray a (by simp) (by simpa using hB.2) h
  have h2 := tailAny (F := F) (n := n) (P := P) (C := fun w' => ∃ j, w' = w.drewN j) (Q := Q) hro hf hg haw l.length (List.replicate l.length false) a w.drew (by simp) (by simp) (fun j oj _ hj => by (rw [List.getElem?_replicate] at hj; split at hj <;> cases hj)) ⟨1, rfl⟩ (by
    refine Eq.mp ?_ h1
    congr 1
    funext a'
    refine propext (forall_congr' fun w' => imp_congr_right fun _ => ?_)
    show (if Region.wanted o (yielded (l ++ [o]).toArray a'.tmps) = true then o.wpIn F n P a' w' (wpListIn F n P (l ++ [o]).toArray Q []) Q else _) ↔ _
    rw [if_pos (by simp [Region.wanted, hg])]
    exact Iff.rfl)
  refine wpIn_region_any hm ?_
  have h3 := anyLift (k := k) hro hd _ _ _ _ h2
  have e : (List.replicate l.length false ++ [false]).toArray = Array.replicate (l ++ [o]).toArray.size false := by
    simp [← List.replicate_succ']
  rw [e] at h3
  simpa using h3
end Rd
end Go.Proofs.YtlhechlbmbjffaaDoor
