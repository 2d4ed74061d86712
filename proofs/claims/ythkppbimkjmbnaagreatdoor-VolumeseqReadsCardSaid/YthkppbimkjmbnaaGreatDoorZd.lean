/-
  The walks through the reference's Repeat, ParseDstring, Fit and Dstring.
-/
import Derived.Test.YthkppbimkjmbnaaGreatDoorZc
import Derived.Test.YthkppbimkjmbnaaGreatDoorZK
import Derived.Test.YthkppbimkjmbnaaGreatDoorZA
import Derived.Orders
import Derived.RegionTactic
namespace Go.Proofs.YthkppbimkjmbnaaGreatDoor
open Go.RowKit

set_option maxHeartbeats 1600000 in
set_option maxRecDepth 100000 in
/-- masterdiscref32.ParseDstring. -/
theorem vParse_any (f : ByteArray) (w : World) (hs : f.size ≤ 9223372036854775807) :
    Calls Tryz.prog 144 #[.string f] w fun e w' => e = .returned (.tuple #[.string ⟨(Cs.parseR f.data.toList).1.toArray⟩, .int .i64 (Cs.parseR f.data.toList).2]) ∧ Below w.heap.size w w' := by
  have hdl := Kit.len_size f
  have cS := fun W => sized_any (f.size : Int) W
  by_cases hz : Cs.sized (f.size : Int) = true
  case neg =>
    have hz' : Cs.sized (f.size : Int) = false := by simpa using hz
    have hR : Cs.parseR f.data.toList = ([], 1) := if_pos (by rw [hdl]; exact hz')
    have HR := Lib.hid hR
    have h25 : ¬ (2 ≤ (f.size : Int) ∧ (f.size : Int) ≤ 255) := fun h => hz ((sized_iff _).2 h)
    clear hR hdl cS hz hz'
    by_cases h2 : (f.size : Int) < 2
    · clear h25
      go_enter Tryz.func144, Tryz.ntmps144
      go_wp2_with fail
      go_ret2
      rw [HR.out]
      exact ⟨rfl, Below.refl _ _⟩
    have h255 : (255 : Int) < (f.size : Int) := by omega
    clear h25
    go_enter Tryz.func144, Tryz.ntmps144
    go_wp2_with fail
    go_ret2
    rw [HR.out]
    exact ⟨rfl, Below.refl _ _⟩
  case pos =>
  have h25 := (sized_iff _).1 hz
  have hR0 : Cs.parseR f.data.toList = if f.size - 1 < Cs.byt f.data.toList (f.size - 1) then ([], 10) else Cs.expandR (f.data.toList.take (Cs.byt f.data.toList (f.size - 1))) := by
    unfold Cs.parseR
    rw [if_neg (by rw [hdl, hz]; simp), hdl]
  have hpos : f.size - 1 < f.size := by omega
  have bl := Kit.byt_get f (f.size - 1) hpos
  have lb := Cs.byt_lt f.data.toList (f.size - 1)
  have cE := fun W h => vExpand_any (f.extract 0 (Cs.byt f.data.toList (f.size - 1))) W h
  have hidx : ((f.size : Int) - 1).toNat = f.size - 1 := by omega
  generalize hn : Cs.byt f.data.toList (f.size - 1) = n at *
  by_cases hc : f.size - 1 < n
  · have HR := Lib.hid (hR0.trans (if_pos hc))
    have hc' : (f.size : Int) - 1 < (n : Int) := by omega
    clear hR0 hdl cS hz hn cE hc
    obtain ⟨hl2, hu2⟩ := h25
    go_enter Tryz.func144, Tryz.ntmps144
    go_wp2_with fail
    go_ret2
    rw [HR.out]
    exact ⟨rfl, Below.refl _ _⟩
  · have HR := Lib.hid (hR0.trans (if_neg hc))
    have hc' : ¬ (f.size : Int) - 1 < (n : Int) := by omega
    have hc2 : (n : Int) ≤ (f.size : Int) := by omega
    have hex : (f.extract 0 n).data.toList = f.data.toList.take n := by rw [Lib.extract_data]; simp
    rw [hex] at cE
    have CE := Lib.hid (fun W => cE W (by simp; omega))
    clear hR0 hdl cS hz hn cE hc hex
    obtain ⟨hl2, hu2⟩ := h25
    go_enter Tryz.func144, Tryz.ntmps144
    go_wp2_with fail
    with_reducible refine (CE.out _).mono ?_
    rintro e w4 ⟨rfl, hb4⟩
    go_wp2_with fail
    go_ret2
    rw [HR.out]
    exact ⟨rfl, hb4⟩
end Go.Proofs.YthkppbimkjmbnaaGreatDoor

/-
  Long regions that draw their order, cut into segments: where an operation waits for all ahead of it and all behind wait for it, what stands ahead and what stands behind are walked one after the other.
-/
namespace Go.Proofs.YthkppbimkjmbnaaGreatDoor
set_option linter.unusedVariables false
namespace Sg
variable {P : Program} {ops : Array Oper} {Q : Exit → Act → World → Prop}
/-- The operations of a function's region. -/
def regOf (k : Nat) : Code → Option (Array Oper)
  | .region id ops _ => if id == k then some ops else none
  | .seq a b => (regOf k a).or (regOf k b)
  | .cond _ a b => (regOf k a).or (regOf k b)
  | .block _ b => regOf k b
  | .loop b => regOf k b
  | .rangeFunc _ _ a b => (regOf k a).or (regOf k b)
  | .scope b => regOf k b
  | _ => none
def opsOf (f : Func) (k : Nat) : Array Oper := ((f.body.bind (regOf k)).getD #[])
/-- Each edge leads back. -/
def back (ops : Array Oper) : Bool := (List.range ops.size).all fun j => match ops[j]? with
  | some o => o.after.all fun e => decide (e.on < j)
  | none => false
def waits (o : Oper) (j : Nat) : Bool := o.after.any fun e => Region.binds .any e && e.on == j
def waitsAt (ops : Array Oper) (i j : Nat) : Bool := match ops[i]? with
  | some o => waits o j
  | none => false
/-- Operation n waits, in the end, for all ahead of it; all behind it wait, in the end, for it. -/
def gate (ops : Array Oper) (n : Nat) : Bool :=
  ((List.range n).all fun j => (List.range (n + 1)).any fun i => decide (j < i) && waitsAt ops i j) &&
  (List.range ops.size).all fun i => decide (i ≤ n) || (List.range i).any fun k => decide (n ≤ k) && waitsAt ops i k
theorem back_at (h : back ops = true) {j : Nat} {o : Oper} (ho : ops[j]? = some o) : ∀ e ∈ o.after, e.on < j := by
  have hj : j < ops.size := (Array.getElem?_eq_some_iff.1 ho).1
  have := List.all_eq_true.1 h j (List.mem_range.2 hj)
  rw [ho] at this
  simp only [] at this
  intro e he
  rw [Array.all_eq_true_iff_forall_mem] at this
  simpa using this e he
theorem waitsAt_iff {i j : Nat} (h : waitsAt ops i j = true) : ∃ o, ops[i]? = some o ∧ ∃ e ∈ o.after, Region.binds .any e = true ∧ e.on = j := by
  unfold waitsAt at h
  cases ho : ops[i]? with
  | none => rw [ho] at h; cases h
  | some o =>
    rw [ho] at h
    obtain ⟨e, he, hb⟩ := Array.any_eq_true'.1 h
    simp only [Bool.and_eq_true, beq_iff_eq] at hb
    exact ⟨o, rfl, e, he, hb.1, hb.2⟩
/-- What is listed has what it waits for. -/
def Shut (ops : Array Oper) (L : List Bool) : Prop := ∀ (j : Nat) (o : Oper), ops[j]? = some o → L[j]? = some true → ∀ e ∈ o.after, Region.binds .any e = true → L[e.on]? = some true
theorem shut_none (n : Nat) : Shut ops (List.replicate n false) := fun j o _ hj => by
  rw [List.getElem?_replicate] at hj
  split at hj <;> simp at hj
theorem getD_false {L : List Bool} {j : Nat} (h : L.toArray.getD j false = true) : L[j]? = some true := by
  simp only [Array.getD_eq_getD_getElem?, List.getElem?_toArray] at h
  cases hx : L[j]? with
  | none => rw [hx] at h; cases h
  | some b => rw [hx] at h; simp at h; rw [h]
theorem getD_true {L : List Bool} {j : Nat} (hj : j < L.length) (h : L.toArray.getD j true = false) : L[j]? = some false := by
  simp only [Array.getD_eq_getD_getElem?, List.getElem?_toArray, List.getElem?_eq_getElem hj, Option.getD_some] at h
  rw [List.getElem?_eq_getElem hj, h]
theorem shut_set {L : List Bool} (hs : Shut ops L) (hb : back ops = true) {i : Nat} (hi : i ∈ Region.ready .any ops L.toArray) : Shut ops (L.set i true) := by
  obtain ⟨_, oi, hoi, ha⟩ := mem_ready.1 hi
  have hold : ∀ k : Nat, L[k]? = some true → (L.set i true)[k]? = some true := fun k hk => by
    by_cases hik : i = k
    · subst hik
      rw [List.getElem?_set_self (List.getElem?_eq_some_iff.1 hk).1]
    · rw [List.getElem?_set_ne hik, hk]
  intro j oj hoj hj e he hbd
  by_cases hij : i = j
  · subst hij
    rw [hoi] at hoj
    cases hoj
    exact hold _ (getD_false (ha e he hbd))
  · rw [List.getElem?_set_ne hij] at hj
    exact hold _ (hs j oj hoj hj e he hbd)
/-- If the gate is listed, so is all ahead of it. -/
theorem gate_all {n : Nat} (hg : gate ops n = true) {L : List Bool} (hs : Shut ops L) (hn : L[n]? = some true) : ∀ j, j ≤ n → L[j]? = some true := by
  have : ∀ d j, n - j = d → j ≤ n → L[j]? = some true := by
    intro d
    induction d using Nat.strongRecOn with
    | _ d ih =>
      intro j hd hj
      by_cases hjn : j = n
      · rw [hjn, hn]
      · rw [gate, Bool.and_eq_true] at hg
        have h1 := List.all_eq_true.1 hg.1 j (List.mem_range.2 (by omega))
        obtain ⟨i, hi, h2⟩ := List.any_eq_true.1 h1
        rw [List.mem_range] at hi
        rw [Bool.and_eq_true, decide_eq_true_eq] at h2
        obtain ⟨o, ho, e, he, hb, rfl⟩ := waitsAt_iff h2.2
        exact hs i o ho (ih (n - i) (by omega) i rfl (by omega)) e he hb
  exact fun j hj => this _ j rfl hj
/-- If something behind the gate is listed, or ready, the gate is listed. -/
theorem gate_behind {n : Nat} (hg : gate ops n = true) {L : List Bool} (hs : Shut ops L) : ∀ i, n < i → i < ops.size → (∀ o, ops[i]? = some o → ∀ e ∈ o.after, Region.binds .any e = true → L[e.on]? = some true) → L[n]? = some true := by
  intro i
  induction i using Nat.strongRecOn with
  | _ i ih =>
    intro hi hsz ha
    have hg2 := hg
    rw [gate, Bool.and_eq_true] at hg2
    have h1 := List.all_eq_true.1 hg2.2 i (List.mem_range.2 hsz)
    rw [Bool.or_eq_true, decide_eq_true_eq] at h1
    rcases h1 with h1 | h1
    · omega
    · obtain ⟨k, hk, h2⟩ := List.any_eq_true.1 h1
      rw [List.mem_range] at hk
      rw [Bool.and_eq_true, decide_eq_true_eq] at h2
      obtain ⟨o, ho, e, he, hb, hke⟩ := waitsAt_iff h2.2
      have hl := ha o ho e he hb
      rw [hke] at hl
      by_cases hkn : k = n
      · rw [← hkn, hl]
      · exact ih k hk (by omega) (by omega) (fun ok hok e he hb => hs k ok hok hl e he hb)
theorem ready_some (hf : back ops = true) (L : List Bool) (hL : L.length = ops.size) : ∀ j : Nat, L[j]? = some false → ∃ i, i ∈ Region.ready .any ops L.toArray := by
  intro j
  induction j using Nat.strongRecOn with
  | _ j ih =>
    intro hj
    have hjL : j < L.length := (List.getElem?_eq_some_iff.1 hj).1
    have hjl : j < ops.size := by rw [← hL]; exact hjL
    by_cases hall : ∀ e ∈ (ops[j]).after, Region.binds .any e = true → L.toArray.getD e.on false = true
    · exact ⟨j, mem_ready.2 ⟨by simp [Array.getD_eq_getD_getElem?, hj], ops[j], by simp [hjl], hall⟩⟩
    · simp only [Classical.not_forall] at hall
      obtain ⟨e, he, hb, hx⟩ := hall
      have hlt := back_at hf (o := ops[j]) (j := j) (by simp [hjl]) e he
      have hel : e.on < L.length := by omega
      refine ih e.on hlt ?_
      have : L[e.on] = false := by
        simp [Array.getD_eq_getD_getElem?, hel] at hx
        exact hx
      rw [List.getElem?_eq_getElem hel, this]
/-- So many operations more, in whatever order; then K. -/
def wpSeg (P : Program) (ops : Array Oper) (Q : Exit → Act → World → Prop) (K : Act → World → Prop) : Nat → Array Bool → Act → World → Prop
  | 0, _, a, w => K a w
  | f + 1, L, a, w => ∀ i ∈ Region.ready .any ops L, wpOp P ops Q i (wpSeg P ops Q K f (L.setIfInBounds i true)) a w
/-- What is listed behind the gate. -/
def mid (m n : Nat) : Array Bool := (List.replicate m true ++ List.replicate n false).toArray
theorem seg_main {n : Nat} (hb : back ops = true) (hg : gate ops n = true) (hn : n < ops.size) {K : Act → World → Prop} (hK : ∀ a w, K a w → wpAny P .any ops Q (ops.size - (n + 1)) (mid (n + 1) (ops.size - (n + 1))) a w) :
    ∀ (f : Nat) (L : List Bool) (a : Act) (w : World), L.length = ops.size → Shut ops L → (∀ i, n < i → i < ops.size → L[i]? = some false) → (L.take (n + 1)).count false = f → wpSeg P ops Q K f L.toArray a w → wpAny P .any ops Q (f + (ops.size - (n + 1))) L.toArray a w := by
  intro f
  induction f with
  | zero =>
    intro L a w hL hs hf hc h
    have h1 : L.take (n + 1) = List.replicate (n + 1) true := by
      rw [List.eq_replicate_iff]
      refine ⟨by rw [List.length_take]; omega, fun b hb' => ?_⟩
      cases b with
      | true => rfl
      | false => exact absurd hb' (List.count_eq_zero.1 hc)
    have h2 : L.drop (n + 1) = List.replicate (ops.size - (n + 1)) false := by
      rw [List.eq_replicate_iff]
      refine ⟨by rw [List.length_drop]; omega, fun b hb' => ?_⟩
      obtain ⟨k, hk⟩ := List.getElem?_of_mem hb'
      rw [List.getElem?_drop] at hk
      have hkl := (List.getElem?_eq_some_iff.1 hk).1
      have := hf (n + 1 + k) (by omega) (by omega)
      rw [hk] at this
      exact Option.some.inj this
    have h3 : L.toArray = mid (n + 1) (ops.size - (n + 1)) := by
      unfold mid
      rw [← h1, ← h2, List.take_append_drop]
    rw [Nat.zero_add, h3]
    exact hK a w h
  | succ f ih =>
    intro L a w hL hs hf hc h
    have hmem : false ∈ L.take (n + 1) := List.count_pos_iff.1 (by omega)
    obtain ⟨j, hj⟩ := List.getElem?_of_mem hmem
    have hjn : j < n + 1 := by
      have := (List.getElem?_eq_some_iff.1 hj).1
      rw [List.length_take] at this
      omega
    rw [List.getElem?_take_of_lt hjn] at hj
    obtain ⟨i0, hi0⟩ := ready_some hb L hL j hj
    rw [show f + 1 + (ops.size - (n + 1)) = (f + (ops.size - (n + 1))) + 1 by omega]
    refine ⟨fun e => by (rw [e] at hi0; cases hi0), fun i hi => ?_⟩
    obtain ⟨hu, oi, hoi, ha⟩ := mem_ready.1 hi
    have hisz : i < ops.size := (Array.getElem?_eq_some_iff.1 hoi).1
    have hin : i ≤ n := by
      rcases Nat.lt_or_ge n i with hni | hni
      · exfalso
        have h1 := gate_behind hg hs i hni hisz (fun o ho e he hbd => by
          rw [hoi] at ho
          cases ho
          exact getD_false (ha e he hbd))
        have h2 := gate_all hg hs h1 j (by omega)
        rw [hj] at h2
        cases h2
      · exact hni
    have hif : L[i]? = some false := getD_true (by omega) hu
    have hset : L.toArray.setIfInBounds i true = (L.set i true).toArray := List.setIfInBounds_toArray ..
    refine wpOp_mono (fun a' w' hh => ?_) (h i hi)
    rw [hset] at hh ⊢
    refine ih (L.set i true) a' w' (by rw [List.length_set]; exact hL) (shut_set hs hb hi) (fun k hk1 hk2 => ?_) ?_ hh
    · rw [List.getElem?_set_ne (by omega)]
      exact hf k hk1 hk2
    · rw [List.take_set]
      have hit : i < (L.take (n + 1)).length := by rw [List.length_take]; omega
      have h0 : (L.take (n + 1))[i] = false := by
        rw [List.getElem_take]
        have hiL : i < L.length := by omega
        rw [List.getElem?_eq_getElem hiL] at hif
        exact Option.some.inj hif
      rw [List.count_set hit, hc]
      simp [h0]
/-- The beginning. -/
theorem first {id n : Nat} {K : Act → World → Prop} {a : Act} {w : World} (hm : P.follows .mixedOrders = true) (hb : back ops = true) (hg : gate ops n = true) (hn : n < ops.size)
    (hK : ∀ a w, K a w → wpAny P .any ops Q (ops.size - (n + 1)) (mid (n + 1) (ops.size - (n + 1))) a w) (h : wpSeg P ops Q K (n + 1) (mid 0 ops.size) a w.drew) : (Code.region id ops true).wp P Q a w := by
  refine wp_region_any hm ?_
  have e : (Array.replicate ops.size false) = (List.replicate ops.size false).toArray := by simp
  rw [e, show ops.size = (n + 1) + (ops.size - (n + 1)) by omega, show (n + 1) + (ops.size - (n + 1)) = ops.size by omega]
  have h' : wpSeg P ops Q K (n + 1) (List.replicate ops.size false).toArray a w.drew := h
  have := seg_main hb hg hn hK (n + 1) (List.replicate ops.size false) a w.drew (by simp) (shut_none _) (fun i _ hi => by simp [hi]) (by rw [List.take_replicate, List.count_replicate_self]; omega) h'
  rw [show n + 1 + (ops.size - (n + 1)) = ops.size by omega] at this
  exact this
/-- From gate to gate. -/
theorem next {m n : Nat} {K : Act → World → Prop} {a : Act} {w : World} (hb : back ops = true) (hg0 : gate ops m = true) (hmn : m < n) (hg : gate ops n = true) (hn : n < ops.size)
    (hK : ∀ a w, K a w → wpAny P .any ops Q (ops.size - (n + 1)) (mid (n + 1) (ops.size - (n + 1))) a w) (h : wpSeg P ops Q K (n - m) (mid (m + 1) (ops.size - (m + 1))) a w) :
    wpAny P .any ops Q (ops.size - (m + 1)) (mid (m + 1) (ops.size - (m + 1))) a w := by
  have hat : ∀ i, i < m + 1 → (List.replicate (m + 1) true ++ List.replicate (ops.size - (m + 1)) false)[i]? = some true := fun i hi => by
    rw [List.getElem?_append_left (by simpa using hi)]
    simp [hi]
  have hat2 : ∀ i, m < i → i < ops.size → (List.replicate (m + 1) true ++ List.replicate (ops.size - (m + 1)) false)[i]? = some false := fun i h1 h2 => by
    rw [List.getElem?_append_right (by simp; omega), List.getElem?_replicate, List.length_replicate, if_pos (by omega)]
  have := seg_main hb hg hn hK (n - m) (List.replicate (m + 1) true ++ List.replicate (ops.size - (m + 1)) false) a w (by simp; omega) (fun j o ho hj e he hbd => by
    have hlt := back_at hb ho e he
    by_cases hjm : j < m + 1
    · exact hat _ (by omega)
    · rw [hat2 j (by omega) (Array.getElem?_eq_some_iff.1 ho).1] at hj
      cases hj) (fun i h1 h2 => hat2 i (by omega) h2) (by
    rw [List.take_append, List.take_of_length_le (by simp; omega), List.count_append, List.take_replicate, List.count_replicate_self, List.count_replicate]
    simp
    omega) h
  rw [show n - m + (ops.size - (n + 1)) = ops.size - (m + 1) by omega] at this
  exact this
/-- The end. -/
theorem last {n : Nat} {a : Act} {w : World} (hn : ops.size = n + 1) (h : Q .normal a w) : wpAny P .any ops Q (ops.size - (n + 1)) (mid (n + 1) (ops.size - (n + 1))) a w := by
  rw [show ops.size - (n + 1) = 0 by omega]
  refine ⟨?_, h⟩
  rw [List.eq_nil_iff_forall_not_mem]
  intro j hj
  obtain ⟨hu, oj, hoj, _⟩ := mem_ready.1 hj
  have hjl := (Array.getElem?_eq_some_iff.1 hoj).1
  unfold mid at hu
  simp [Array.getD_eq_getD_getElem?, show j < n + 1 by omega] at hu
/-! ### orders -/
theorem wp_then {o : Oper} {a : Act} {w : World} {K K2 : Act → World → Prop} (h : o.wp P a w K (Exit.then K2 Q)) : o.wp P a w K Q := by
  unfold Oper.wp at *
  generalize (execOp a.eval o).run P w = r at *
  unfold Oper.upon at *
  split at h <;> exact h
/-- Operations in an order, as a list. -/
def ordK (P : Program) (ops : Array Oper) (Q : Exit → Act → World → Prop) (K : Act → World → Prop) : List Nat → Act → World → Prop
  | [] => K
  | i :: r => wpOp P ops Q i (ordK P ops Q K r)
theorem ord_list {K : Act → World → Prop} : ∀ (idx : List Nat) (l : List Oper) (a : Act) (w : World), l.map some = idx.map (fun i => ops[i]?) → wpList P ops (Exit.then K Q) l a w → ordK P ops Q K idx a w
  | [], [], a, w, _, h => h
  | [], _ :: _, _, _, he, _ => by cases he
  | _ :: _, [], _, _, he, _ => by cases he
  | i :: r, o :: l, a, w, he, h => by
    simp only [List.map_cons, List.cons.injEq] at he
    unfold ordK wpOp
    rw [← he.1]
    simp only []
    unfold wpList at h
    split
    · rename_i hw
      rw [if_pos hw] at h
      rcases h with h | h
      · exact .inl (wp_then (Oper.wp_mono (fun a' w' hh => ord_list r l a' w' he.2 hh) h))
      · exact .inr h
    · rename_i hw
      rw [if_neg hw] at h
      exact ord_list r l _ _ he.2 h
/-- The order is forced. -/
def forced (ops : Array Oper) : Array Bool → List Nat → Bool
  | _, [] => true
  | L, i :: r => (Region.ready .any ops L == [i]) && forced ops (L.setIfInBounds i true) r
theorem seg_forced {K : Act → World → Prop} : ∀ (idx : List Nat) (L : Array Bool) (a : Act) (w : World), forced ops L idx = true → ordK P ops Q K idx a w → wpSeg P ops Q K idx.length L a w
  | [], _, _, _, _, h => h
  | i :: r, L, a, w, hf, h => by
    rw [forced, Bool.and_eq_true, beq_iff_eq] at hf
    intro k hk
    rw [hf.1, List.mem_singleton] at hk
    subst hk
    exact wpOp_mono (fun a' w' hh => seg_forced r _ a' w' hf.2 hh) h
/-- A segment whose order is forced, as a list of operations. -/
theorem line {K : Act → World → Prop} {f : Nat} {L : Array Bool} {a : Act} {w : World} (idx : List Nat) (l : List Oper) (hi : idx.length = f) (hf : forced ops L idx = true) (hl : l.map some = idx.map (fun i => ops[i]?)) (h : wpList P ops (Exit.then K Q) l a w) : wpSeg P ops Q K f L a w := by
  subst hi
  exact seg_forced idx L a w hf (ord_list idx l a w hl h)
/-- A fork: two operations may come up. -/
theorem fork {K : Act → World → Prop} {f : Nat} {L : Array Bool} {a : Act} {w : World} (i j : Nat) (oi oj : Oper) (hr : Region.ready .any ops L = [i, j]) (hi : ops[i]? = some oi) (hj : ops[j]? = some oj)
    (h1 : wpList P ops (Exit.then (wpSeg P ops Q K f (L.setIfInBounds i true)) Q) [oi] a w) (h2 : wpList P ops (Exit.then (wpSeg P ops Q K f (L.setIfInBounds j true)) Q) [oj] a w) : wpSeg P ops Q K (f + 1) L a w := by
  intro k hk
  rw [hr] at hk
  simp only [List.mem_cons, List.not_mem_nil, or_false] at hk
  rcases hk with rfl | rfl
  · exact ord_list [k] [oi] a w (by simp [hi]) h1
  · exact ord_list [k] [oj] a w (by simp [hj]) h2
/-! ### a cut behind a segment -/
/-- Slots written, one after the other. -/
def puts (a : Act) : List Tmp → List Value → Act
  | t :: ts, v :: vs => puts (a.put (some t) v) ts vs
  | _, _ => a
/-- A segment behind a gate, and what is known when it is through: the slots that it writes, and the world. -/
theorem cut {m n : Nat} {a : Act} {w : World} (sl : List Tmp) (R : List Value → World → Prop) (hb : back ops = true) (hg0 : gate ops m = true) (hmn : m < n) (hg : gate ops n = true) (hn : n < ops.size)
    (hK : ∀ vs w', R vs w' → wpAny P .any ops Q (ops.size - (n + 1)) (mid (n + 1) (ops.size - (n + 1))) (puts a sl vs) w') (h : wpSeg P ops Q (fun a' w' => ∃ vs, a' = puts a sl vs ∧ R vs w') (n - m) (mid (m + 1) (ops.size - (m + 1))) a w) :
    wpAny P .any ops Q (ops.size - (m + 1)) (mid (m + 1) (ops.size - (m + 1))) a w :=
  next hb hg0 hmn hg hn (fun a' w' ⟨vs, e, hr⟩ => e ▸ hK vs w' hr) h
/-- A forced segment behind a gate. -/
theorem run {m n : Nat} {a : Act} {w : World} (idx : List Nat) (l : List Oper) (hb : back ops = true) (hg0 : gate ops m = true) (hmn : m < n) (hg : gate ops n = true) (hn : n < ops.size) (hi : idx.length = n - m) (hf : forced ops (mid (m + 1) (ops.size - (m + 1))) idx = true) (hl : l.map some = idx.map (fun i => ops[i]?))
    (h : wpList P ops (Exit.then (wpAny P .any ops Q (ops.size - (n + 1)) (mid (n + 1) (ops.size - (n + 1)))) Q) l a w) : wpAny P .any ops Q (ops.size - (m + 1)) (mid (m + 1) (ops.size - (m + 1))) a w :=
  next hb hg0 hmn hg hn (fun _ _ h => h) (line idx l hi hf hl h)
end Sg
end Go.Proofs.YthkppbimkjmbnaaGreatDoor
