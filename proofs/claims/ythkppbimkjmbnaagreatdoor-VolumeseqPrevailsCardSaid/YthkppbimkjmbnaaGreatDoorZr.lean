/-
  The walk through VolumeseqPrevails.
-/
import Derived.Test.YthkppbimkjmbnaaGreatDoorZg
import Derived.Test.YthkppbimkjmbnaaGreatDoorZq
import Derived.Deep.RegionHeld3
import Derived.Deep.MidRow
namespace Go.Proofs.YthkppbimkjmbnaaGreatDoor
set_option linter.unusedVariables false
open Go.RowKit Go.Maps
open Vs (bs by_)
namespace Sg
variable {P : Program} {ops : Array Oper} {Q : Exit → Act → World → Prop}
/-- One operation alone may come up; three may. -/
theorem line1 {K : Act → World → Prop} {f : Nat} {L : Array Bool} {a : Act} {w : World} (i : Nat) (oi : Oper) (hr : Region.ready .any ops L = [i]) (hi : ops[i]? = some oi)
    (h1 : wpList P ops (Exit.then (wpSeg P ops Q K f (L.setIfInBounds i true)) Q) [oi] a w) : wpSeg P ops Q K (f + 1) L a w := by
  intro k hk
  rw [hr] at hk
  simp only [List.mem_cons, List.not_mem_nil, or_false] at hk
  subst hk
  exact ord_list [k] [oi] a w (by simp [hi]) h1
theorem fork3 {K : Act → World → Prop} {f : Nat} {L : Array Bool} {a : Act} {w : World} (i j m : Nat) (oi oj om : Oper) (hr : Region.ready .any ops L = [i, j, m]) (hi : ops[i]? = some oi) (hj : ops[j]? = some oj) (hm : ops[m]? = some om)
    (h1 : wpList P ops (Exit.then (wpSeg P ops Q K f (L.setIfInBounds i true)) Q) [oi] a w) (h2 : wpList P ops (Exit.then (wpSeg P ops Q K f (L.setIfInBounds j true)) Q) [oj] a w) (h3 : wpList P ops (Exit.then (wpSeg P ops Q K f (L.setIfInBounds m true)) Q) [om] a w) : wpSeg P ops Q K (f + 1) L a w := by
  intro k hk
  rw [hr] at hk
  simp only [List.mem_cons, List.not_mem_nil, or_false] at hk
  rcases hk with rfl | rfl | rfl
  · exact ord_list [k] [oi] a w (by simp [hi]) h1
  · exact ord_list [k] [oj] a w (by simp [hj]) h2
  · exact ord_list [k] [om] a w (by simp [hm]) h3
/-- The first segment, and what is known when it is through. -/
theorem firstcut {id n : Nat} {a : Act} {w : World} (sl : List Tmp) (R : List Value → World → Prop) (hm : P.follows .mixedOrders = true) (hb : back ops = true) (hg : gate ops n = true) (hn : n < ops.size)
    (hK : ∀ vs w', R vs w' → wpAny P .any ops Q (ops.size - (n + 1)) (mid (n + 1) (ops.size - (n + 1))) (puts a sl vs) w') (h : wpSeg P ops Q (fun a' w' => ∃ vs, a' = puts a sl vs ∧ R vs w') (n + 1) (mid 0 ops.size) a w.drew) :
    (Code.region id ops true).wp P Q a w :=
  first hm hb hg hn (fun a' w' ⟨vs, e, hr⟩ => e ▸ hK vs w' hr) h
end Sg
namespace Vs
/-- What the law makes of one volume's descriptors, of another's. -/
def wA (b d : D) : D := { d with vol := { b.vol with name := d.vol.name } }
def wB (b d : D) : D := { d with part := b.part }
def wC (b d : D) : D := { d with vol := { d.vol with name := b.vol.name }, maps := b.maps, table := b.table, fk := b.fk, fl := b.fl, fb := b.fb, fp := b.fp, istart := b.istart, icount := b.icount }
def want1 (b d : D) (n0 : Nat) : D := if 1 < n0 then wA b d else d
def want2 (b d : D) (n0 n1 : Nat) : D := if 2 < n1 then wB b (want1 b d n0) else want1 b d n0
def want3 (b d : D) (n0 n1 n2 : Nat) : D := if 3 < n2 then wC b (want2 b d n0 n1) else want2 b d n0 n1
theorem want_mix (a b : D) (n0 n1 n2 : Nat) : want3 (keptD b) (keptD a) n0 n1 n2 = mixD (if 1 < n0 then b else a) (if 2 < n1 then b else a) (if 3 < n2 then b else a) := by
  unfold want3 want2 want1
  by_cases h0 : 1 < n0 <;> by_cases h1 : 2 < n1 <;> by_cases h2 : 3 < n2 <;> simp only [h0, h1, h2, if_true, if_false] <;> rfl
def wantD (b d : D) (n0 n1 n2 i : Nat) : D := if i = 0 then d else if i = 1 then want1 b d n0 else if i = 2 then want2 b d n0 n1 else want3 b d n0 n1 n2
theorem wantD_0 (b d : D) (n0 n1 n2 : Nat) : wantD b d n0 n1 n2 0 = d := rfl
theorem wantD_1 (b d : D) (n0 n1 n2 : Nat) : wantD b d n0 n1 n2 1 = want1 b d n0 := rfl
theorem wantD_2 (b d : D) (n0 n1 n2 : Nat) : wantD b d n0 n1 n2 2 = want2 b d n0 n1 := rfl
theorem wantD_3 (b d : D) (n0 n1 n2 : Nat) : wantD b d n0 n1 n2 3 = want3 b d n0 n1 n2 := rfl
/-- A row is its block's alone. -/
theorem own_heap {w w' : World} {base e size n : Nat} {v : Value} {xs : List Value} (h : w.ownsRow base e size v n xs) (hk : ∀ g, v.ownBlock = some g → w'.heap[g]? = w.heap[g]?) : w'.ownsRow base e size v n xs := by
  refine ⟨h.1, ?_⟩
  rcases h.2 with hn | ⟨g, cap, cur, hv, hb, hg, rest⟩
  · exact .inl hn
  · exact .inr ⟨g, cap, cur, hv, hb, (hk g (by rw [hv]; rfl)).trans hg, rest⟩
theorem own_far {w : World} {g base size n : Nat} {T e : TypeId} {v : Value} {xs : List Value} {cs : Array Value} {fr : Nat × Nat} (h : w.heap[g]? = some (.cells cs T fr)) (hte : T ≠ e) (hr : w.ownsRow base e size v n xs) : v.ownBlock ≠ some g := by
  intro he
  rcases hr.2 with ⟨hv, _⟩ | ⟨g', cap, cur, hv, _, hg, _⟩
  · rw [hv] at he; cases he
  · rw [hv] at he
    simp only [Value.ownBlock, Option.some.injEq] at he
    subst he
    rw [hg] at h
    simp only [Option.some.injEq, Obj.cells.injEq] at h
    exact hte h.2.1.symm
theorem heap3_2 (w : World) (x y z : Obj) : (((w.alloc x).alloc y).alloc z).heap[w.heap.size + 2]? = some z := by
  have := heap_alloc_new ((w.alloc x).alloc y) z
  rwa [World.size_alloc, World.size_alloc] at this
theorem heap3_1 (w : World) (x y z : Obj) : (((w.alloc x).alloc y).alloc z).heap[w.heap.size + 1]? = some y := by
  have := heap_alloc2_old (w.alloc x) y z
  rwa [World.size_alloc] at this
theorem heap3_0 (w : World) (x y z : Obj) : (((w.alloc x).alloc y).alloc z).heap[w.heap.size]? = some x := by
  have h := heap_alloc2_old w x y
  have hb := (Below.refl ((w.alloc x).alloc y).heap.size ((w.alloc x).alloc y)).alloc (Nat.le_refl _) z
  exact (hb.block _ (Array.getElem?_eq_some_iff.1 h).1).trans h
theorem row_cells {w w' : World} {base g cap : Nat} {l : List ByteArray} (h : w.ownsRow base 9 1 (.slice (some ⟨g, 0, none⟩) 16 cap) 16 (strs l)) (hl : l.length = 16) (hb : Below w.heap.size w w') : ∀ W, Below w'.heap.size w' W → ∀ j, j < 16 → W.cell? ⟨g, j, none⟩ = some (.string (l.getD j ⟨#[]⟩)) := fun W h2 j hj => by
  obtain ⟨A, c, hv, -, -, hc⟩ := (Kit.Row.of_own h).below (hb.trans (h2.mono hb.size))
  rw [strs_len, hl] at hv hc
  obtain ⟨b, o, hA, -, hcc⟩ := hc (by decide)
  subst hA
  obtain ⟨⟨rfl, rfl⟩, rfl⟩ : (g = b ∧ 0 = o) ∧ cap = c := by simpa using hv
  have := hcc j (.string (l.getD j ⟨#[]⟩)) (by simp [strs, List.getD, hl, hj])
  rwa [Nat.zero_add] at this
theorem heap_put_same {W : World} {g k : Nat} (vs : List Value) (i : Nat) (hne : k ≠ g) : (W.setCells g i vs).heap[k]? = W.heap[k]? := by
  cases h : W.heap[k]? with
  | some o => exact heap_put_other vs i hne h
  | none =>
    have : (W.setCells g i vs).heap.size = W.heap.size := by
      induction vs generalizing W i with
      | nil => rfl
      | cons v vs ih => 
        have h2 : (W.setCell ⟨g, i, none⟩ v).heap.size = W.heap.size := by simp
        refine (ih (W := W.setCell ⟨g, i, none⟩ v) (i + 1) ?_).trans h2
        rw [Array.getElem?_eq_none_iff] at h ⊢
        omega
    rw [Array.getElem?_eq_none_iff] at h ⊢
    omega
/-- Cells put in the middle of a row. -/
def setFrom : Array Value → Nat → List Value → Array Value
  | cs, _, [] => cs
  | cs, o, v :: vs => setFrom (cs.setIfInBounds o v) (o + 1) vs
theorem mid_put {g : Nat} {t : TypeId} : ∀ (vs : List Value) (o : Nat) {W : World} {cs : Array Value}, W.heap[g]? = some (.cells cs t (0, 0)) → (W.setCells g o vs).heap[g]? = some (.cells (setFrom cs o vs) t (0, 0))
  | [], _, _, _, h => h
  | v :: vs, o, _, _, h => mid_put vs (o + 1) (heap_setCell_same _ _ o _ _ v h)
theorem there_mid {W : World} {g : Nat} {t : TypeId} {cs : Array Value} {o n : Nat} (h : W.heap[g]? = some (.cells cs t (0, 0))) (hn : o + n ≤ cs.size) : W.there g o n := fun j hj => by
  refine ⟨?_, frozen_of_row _ _ _ _ _ h⟩
  rw [cell_of_row _ _ _ _ _ _ h, Array.getElem?_eq_getElem (by omega)]
  rfl
theorem six_size {a b : D} (ha : okD a = true) (hb : okD b = true) (loc n0 n1 n2 j : Nat) : ((six a b loc n0 n1 n2).getD j ⟨#[]⟩).size ≤ 9223372036854775807 := by
  obtain ⟨ka1, ka2, ka3, ka4⟩ := okL_of ha
  obtain ⟨kb1, kb2, kb3, kb4⟩ := okL_of hb
  have key : ∀ (id k : Nat) (body : List UInt8), body.length ≤ 2032 → (bs (blk id 1 k body)).size ≤ 9223372036854775807 := fun id k body h => by
    rw [bs_size, blk_len h]
    decide
  have key2 : ∀ (n : Nat) (x : List UInt8), x.length ≤ 2032 → 4 ≤ x.length → (Pm.le 4 n ++ x.drop 4).length ≤ 2032 := fun n x h h4 => by
    rw [List.length_append, Pm.le_len, List.length_drop]
    omega
  unfold six
  rcases j with _ | _ | _ | _ | _ | _ | j
  · exact key _ _ _ (by omega)
  · exact key _ _ _ (by omega)
  · exact key _ _ _ (by omega)
  · exact key _ _ _ (key2 _ _ (by omega) (by omega))
  · exact key _ _ _ (key2 _ _ (by omega) (by omega))
  · exact key _ _ _ (key2 _ _ (by omega) (by omega))
  · show (([] : List ByteArray).getD j ⟨#[]⟩).size ≤ _
    rw [show ([] : List ByteArray).getD j ⟨#[]⟩ = ⟨#[]⟩ from rfl]
    decide
/-- Cells put one after the other. -/
def putAll (w : World) (g : Nat) (l : List (Nat × Value)) : World := l.foldl (fun W x => W.setCell ⟨g, x.1, none⟩ x.2) w
def setAll (cs : Array Value) (l : List (Nat × Value)) : Array Value := l.foldl (fun c x => c.setIfInBounds x.1 x.2) cs
theorem putAll_other {g k : Nat} (hk : k ≠ g) : ∀ (l : List (Nat × Value)) (w : World), (putAll w g l).heap[k]? = w.heap[k]?
  | [], _ => rfl
  | x :: l, w => (putAll_other hk l (w.setCell ⟨g, x.1, none⟩ x.2)).trans (heap_setCell_other _ _ _ _ (by simpa using hk))
theorem putAll_same {g : Nat} {t : TypeId} : ∀ (l : List (Nat × Value)) {w : World} {cs : Array Value}, w.heap[g]? = some (.cells cs t (0, 0)) → (putAll w g l).heap[g]? = some (.cells (setAll cs l) t (0, 0))
  | [], _, _, h => h
  | x :: l, _, _, h => putAll_same l (heap_setCell_same _ _ x.1 _ _ x.2 h)
theorem putAll_below {g b : Nat} (hb : b ≤ g) : ∀ (l : List (Nat × Value)) {w0 w : World}, Below b w0 w → Below b w0 (putAll w g l)
  | [], _, _, h => h
  | x :: l, _, _, h => putAll_below hb l (h.setCell (p := ⟨g, x.1, none⟩) hb _)
theorem drew_heap (w : World) (k : Nat) : w.drew.heap[k]? = w.heap[k]? := rfl
/-- The law's own memory under way: the list, what is wanted, the other volume's. -/
structure Pv4 (y0 W : World) (gb ge : Nat) (d e : D) (v : Value) (l : List ByteArray) : Prop where
  own : W.ownsRow y0.heap.size 9 1 v l.length (strs l)
  want : W.heap[gb]? = some (.cells (dC d) 46 (0, 0))
  other : W.heap[ge]? = some (.cells (dC e) 46 (0, 0))
  bel : Below y0.heap.size y0 W
  lo : y0.heap.size ≤ gb
  ne : gb ≠ ge
theorem Pv4.lt {y0 W : World} {gb ge : Nat} {d e : D} {v : Value} {l : List ByteArray} (h : Pv4 y0 W gb ge d e v l) : gb < W.heap.size ∧ ge < W.heap.size := ⟨(Array.getElem?_eq_some_iff.1 h.want).1, (Array.getElem?_eq_some_iff.1 h.other).1⟩
theorem Pv4.below {y0 W W' : World} {gb ge : Nat} {d e : D} {v : Value} {l : List ByteArray} (h : Pv4 y0 W gb ge d e v l) (hb : Below W.heap.size W W') : Pv4 y0 W' gb ge d e v l :=
  ⟨Kit.own_below h.own hb, (hb.block gb h.lt.1).trans h.want, (hb.block ge h.lt.2).trans h.other, h.bel.trans (hb.mono h.bel.size), h.lo, h.ne⟩
theorem Pv4.put {y0 W W' : World} {gb ge : Nat} {d e d' : D} {v : Value} {l : List ByteArray} (h : Pv4 y0 W gb ge d e v l) (hw : W'.heap[gb]? = some (.cells (dC d') 46 (0, 0))) (ho : ∀ k, k ≠ gb → W'.heap[k]? = W.heap[k]?) (hb : Below y0.heap.size y0 W') : Pv4 y0 W' gb ge d' e v l :=
  ⟨own_heap h.own fun g hg => ho g (fun e => own_far h.want (by decide) h.own (by rw [hg, e])), hw, (ho ge (Ne.symm h.ne)).trans h.other, hb, h.lo, h.ne⟩
theorem Pv4.app {y0 W : World} {ops : Array Oper} {rest : List Oper} {o : Oper} {a : Act} {Q : Exit → Act → World → Prop} {gb ge : Nat} {d e : D} {v : Value} {l : List ByteArray} (h : Pv4 y0 W gb ge d e v l) (hl : l.length ≤ 8) (s : ByteArray) (hgd : o.guard = none) (x y : Operand)
    (ho : o.op = .call { callee := .builtin .append, args := #[x, y], argTypes := #[31, 31] }) (hs : a.eval x = v) (hx : a.eval y = .slice (some ⟨W.heap.size, 0, none⟩) 1 1)
    (hk : ∀ v' w', Pv4 y0 w' gb ge d e v' (l ++ [s]) → wpList Tryz.prog ops Q rest (a.put o.dst v') w') : wpList Tryz.prog ops Q (o :: rest) a (W.alloc (.cells #[.string s] 9)) := by
  obtain ⟨i, hi, hz0, hz1, hz2⟩ := info_parts (P := Tryz.prog) strInfo
  have hb0 : Below W.heap.size W (W.alloc (.cells #[.string s] 9)) := (Below.refl _ _).alloc (Nat.le_refl _) _
  have h1 := h.below hb0
  have hbase := h1.bel.size
  refine wpList_append_own _ hgd x y 31 ho y0.heap.size 9 i _ 1 _ Tryz.underlying31 hi hz0 hz1 hz2 rfl (by decide) v l.length (strs l) hs h1.own ⟨W.heap.size, 0, none⟩ 1 1 [.string s] hx rfl ?_ (Kit.one1 rfl) (by unfold maxLen; omega) (by omega) hbase ?_
  · intro j u hu
    rw [Addr.add_lit, World.cell?_alloc_at _ _ _ _ (by simp)]
    simpa using hu
  · intro v' w' ho' hg _
    have q1 := own_far h1.want (by decide) h1.own
    have q2 := own_far h1.other (by decide) h1.own
    refine hk v' w' ⟨?_, ?_, ?_, ?_, h.lo, h.ne⟩
    · rw [List.length_append]
      have : strs (l ++ [s]) = strs l ++ [.string s] := by simp [strs]
      rw [this]
      exact ho'
    · exact (hg.block gb h1.lt.1 (fun e => q1 e.symm)).trans h1.want
    · exact (hg.block ge h1.lt.2 (fun e => q2 e.symm)).trans h1.other
    · exact h1.bel.grown hg h1.bel.size (fun k hk => (h1.own.lt k hk).1)
end Vs

/-- The region of VolumeseqPrevails that copies the list. -/
noncomputable def pvA : Array Oper := Sg.opsOf Tryz.f7 12
theorem pvA_back : Sg.back pvA = true := by kernel_rfl
theorem pvA_sz : pvA.size = 7 + 1 := by kernel_rfl
theorem pvA_g6 : Sg.gate pvA 6 = true := by kernel_rfl
theorem pvA_g7 : Sg.gate pvA 7 = true := by kernel_rfl
theorem pvA_lt6 : 6 < pvA.size := by rw [pvA_sz]; decide
theorem pvA_lt7 : 7 < pvA.size := by rw [pvA_sz]; decide

set_option maxHeartbeats 25600000 in
set_option maxRecDepth 100000 in
/-- VolumeseqPrevails. -/
theorem lawPrevails_any (a b : Vs.D) (N n0 n1 n2 : Nat) (hN : N ≤ 65535) (hn0 : n0 < 256) (hn1 : n1 < 256) (hn2 : n2 < 256) (w : World) (m : Int) (hT : Lib.Utf8Tabs 1 2 w) (hM : w.cell? ⟨0, 0, none⟩ = some (.int .i64 m)) :
    Calls Tryz.prog 7 #[.agg (Vs.dC a), .agg (Vs.dC b), .int .u16 (N : Int), .agg #[.int .u8 (n0 : Int), .int .u8 (n1 : Int), .int .u8 (n2 : Int)]] w fun e w' => e = .returned (.bool true) ∧ Below w.heap.size w w' := by
  have HT := Lib.hid hT
  have HM := Lib.hid hM
  have CA := Lib.hid (fun W h1 h2 => awake_any W m h1 h2)
  have CFA := Lib.hid (fun W => few_any a W)
  have CFB := Lib.hid (fun W => few_any b W)
  have HFA := Lib.hid (Vs.fewB_iff a)
  have HFB := Lib.hid (Vs.fewB_iff b)
  have CSA0 := Lib.hid (fun W h x y z => seq_any a (N : Int) W h x y z)
  have CSB0 := Lib.hid (fun W h x y z => seq_any b (N : Int) W h x y z)
  have CKA0 := Lib.hid (fun W h => kept_any a W h)
  have CKB0 := Lib.hid (fun W h => kept_any b W h)
  have CC0 := Lib.hid (fun g (cap : Nat) zs W h1 h2 => Tryz.slices_Clone_string g 0 3 cap zs W h1 (by decide) h2)
  have hza : (Vs.dC a).size = 22 := rfl
  have hzb : (Vs.dC b).size = 22 := rfl
  have HB0 := Lib.hid ((((Below.refl w.heap.size w).alloc (Nat.le_refl _) (.cells (Vs.dC a) 46)).alloc (by simp) (.cells (Vs.dC b) 46)).alloc (by simp; omega) (.cells #[.int .u8 (n0 : Int), .int .u8 (n1 : Int), .int .u8 (n2 : Int)] 57))
  have HZA0 := Lib.hid (Vs.heap3_0 w (.cells (Vs.dC a) 46) (.cells (Vs.dC b) 46) (.cells #[.int .u8 (n0 : Int), .int .u8 (n1 : Int), .int .u8 (n2 : Int)] 57))
  have HZB0 := Lib.hid (Vs.heap3_1 w (.cells (Vs.dC a) 46) (.cells (Vs.dC b) 46) (.cells #[.int .u8 (n0 : Int), .int .u8 (n1 : Int), .int .u8 (n2 : Int)] 57))
  have HZN0 := Lib.hid (Vs.heap3_2 w (.cells (Vs.dC a) 46) (.cells (Vs.dC b) 46) (.cells #[.int .u8 (n0 : Int), .int .u8 (n1 : Int), .int .u8 (n2 : Int)] 57))
  obtain ⟨ZA, hZA⟩ : ∃ Z, Z = Vs.dC a := ⟨_, rfl⟩
  obtain ⟨ZB, hZB⟩ : ∃ Z, Z = Vs.dC b := ⟨_, rfl⟩
  have HZAD := Lib.hid hZA
  have HZBD := Lib.hid hZB
  obtain ⟨KA, hKA⟩ : ∃ K, K = Vs.dC (Vs.keptD a) := ⟨_, rfl⟩
  obtain ⟨KB, hKB⟩ : ∃ K, K = Vs.dC (Vs.keptD b) := ⟨_, rfl⟩
  have HKAD := Lib.hid hKA
  have HKBD := Lib.hid hKB
  have hka22 : KA.size = 22 := by rw [hKA]; rfl
  have hkb22 : KB.size = 22 := by rw [hKB]; rfl
  have HKA1 := Lib.hid (show KA.all (·.oneCell') = true by rw [hKA]; exact Vs.dC_one _)
  have HKB1 := Lib.hid (show KB.all (·.oneCell') = true by rw [hKB]; exact Vs.dC_one _)
  rw [← hZA] at CFA HB0 HZA0 HZB0 HZN0 CSA0 CKA0 hza
  rw [← hZB] at CFB HB0 HZA0 HZB0 HZN0 CSB0 CKB0 hzb
  rw [← hZA, ← hZB]
  rw [← hKA] at CKA0
  rw [← hKB] at CKB0
  have hn0z : (n0 : Int) < 256 := by omega
  have hn1z : (n1 : Int) < 256 := by omega
  have hn2z : (n2 : Int) < 256 := by omega
  clear hT hM hZA hZB hKA hKB
  go_enter Tryz.func7, Tryz.ntmps7
  go_wp2_with fail
  generalize ((w.alloc (.cells ZA 46)).alloc (.cells ZB 46)).alloc (.cells #[.int .u8 (n0 : Int), .int .u8 (n1 : Int), .int .u8 (n2 : Int)] 57) = w0 at *
  with_reducible refine (CA.out _ (Kit.tabs_below HT.out HB0.out) ((HB0.out.cell (p := ⟨0, 0, none⟩) (World.block_lt_of_cell? _ _ HM.out)).trans HM.out)).mono ?_
  rintro e w1 ⟨rfl, hb1⟩
  have HK1 := Lib.hid hb1
  have HZA := Lib.hid (show ∀ W, Below w0.heap.size w0 W → W.heap[w.heap.size]? = some (.cells ZA 46 (0, 0)) from fun W h => (h.block _ (Array.getElem?_eq_some_iff.1 HZA0.out).1).trans HZA0.out)
  have HZB := Lib.hid (show ∀ W, Below w0.heap.size w0 W → W.heap[w.heap.size + 1]? = some (.cells ZB 46 (0, 0)) from fun W h => (h.block _ (Array.getElem?_eq_some_iff.1 HZB0.out).1).trans HZB0.out)
  have HZN := Lib.hid (show ∀ W, Below w0.heap.size w0 W → W.heap[w.heap.size + 2]? = some (.cells #[.int .u8 (n0 : Int), .int .u8 (n1 : Int), .int .u8 (n2 : Int)] 57 (0, 0)) from fun W h => (h.block _ (Array.getElem?_eq_some_iff.1 HZN0.out).1).trans HZN0.out)
  have HTW := Lib.hid (show ∀ W, Below w0.heap.size w0 W → Lib.Utf8Tabs 1 2 W from fun W h => Kit.tabs_below HT.out (HB0.out.trans (h.mono HB0.out.size)))
  have HMW := Lib.hid (show ∀ W, Below w0.heap.size w0 W → W.cell? ⟨0, 0, none⟩ = some (.int .i64 m) from fun W h => ((HB0.out.trans (h.mono HB0.out.size)).cell (p := ⟨0, 0, none⟩) (World.block_lt_of_cell? _ _ HM.out)).trans HM.out)
  have HEND := Lib.hid (show ∀ W, Below w0.heap.size w0 W → Below w.heap.size w W from fun W h => HB0.out.trans (h.mono HB0.out.size))
  have HLA1 := Lib.hid (Vs.box_load a HZAD.out (HZA.out w1 HK1.out))
  clear hb1 HB0 HZA0 HZB0 HZN0 HT HM CA
  go_wp2_with (refine wpList_load_at 46 _ rfl w.heap.size 0 rfl _ (HLA1.out) (by rfl) ?_)
  with_reducible refine (CFA.out _).mono ?_
  rintro e w2 ⟨rfl, hb2⟩
  have HK2 := Lib.hid (HK1.out.trans (hb2.mono HK1.out.size))
  clear hb2 HK1 HLA1
  cases hfa : Vs.fewB a with
  | false =>
    rw [hfa] at *
    go_wp2_with fail
    go_ret
    exact ⟨rfl, HEND.out _ HK2.out⟩
  | true =>
  obtain ⟨a1, a2, a3⟩ := HFA.out.1 hfa
  have CSA := Lib.hid (fun W h => CSA0.out W h (by omega) (by omega) (by omega))
  have CKA := Lib.hid (fun W => CKA0.out W (by omega))
  clear CSA0 CKA0 a1 a2 a3
  rw [hfa] at *
  have HLB2 := Lib.hid (Vs.box_load b HZBD.out (HZB.out w2 HK2.out))
  go_wp2_with (refine wpList_load_at 46 _ rfl (w.heap.size + 1) 0 rfl _ (HLB2.out) (by rfl) ?_)
  with_reducible refine (CFB.out _).mono ?_
  rintro e w3 ⟨rfl, hb3⟩
  have HK3 := Lib.hid (HK2.out.trans (hb3.mono HK2.out.size))
  clear hb3 HK2 HLB2
  cases hfb : Vs.fewB b with
  | false =>
    rw [hfb] at *
    go_wp2_with fail
    go_ret
    exact ⟨rfl, HEND.out _ HK3.out⟩
  | true =>
  obtain ⟨a1, a2, a3⟩ := HFB.out.1 hfb
  have CSB := Lib.hid (fun W h => CSB0.out W h (by omega) (by omega) (by omega))
  have CKB := Lib.hid (fun W => CKB0.out W (by omega))
  clear CSB0 CKB0 a1 a2 a3
  rw [hfb] at *
  have hN64 : (N : Int) ≤ 65535 := by omega
  have HLA3 := Lib.hid (Vs.box_load a HZAD.out (HZA.out w3 HK3.out))
  go_wp2_with (refine wpList_load_at 46 _ rfl w.heap.size 0 rfl _ (HLA3.out) (by rfl) ?_)
  with_reducible refine (CSA.out _ (HTW.out _ HK3.out)).mono ?_
  rintro e w4 ⟨v, rfl, ho4, hb4⟩
  have HK4 := Lib.hid (HK3.out.trans (hb4.mono HK3.out.size))
  have HLB4 := Lib.hid (Vs.box_load b HZBD.out (HZB.out w4 HK4.out))
  clear HK3 HLA3 hb4
  go_wp2_with (refine wpList_load_at 46 _ rfl (w.heap.size + 1) 0 rfl _ (HLB4.out) (by rfl) ?_)
  with_reducible refine (CSB.out _ (HTW.out _ HK4.out)).mono ?_
  rintro e w5 ⟨v2, rfl, ho5, hb5⟩
  have HK5 := Lib.hid (HK4.out.trans (hb5.mono HK4.out.size))
  by_cases he : Vs.seqE a N = 0
  case neg =>
    have d2 : (Vs.seqE a N != 0) = true := by rw [bne_iff_ne]; exact he
    clear he ho4 ho5 hb5
    generalize Vs.seqE a N = E at *
    generalize Vs.seqE b N = F at *
    go_wp2_with fail
    go_ret
    exact ⟨rfl, HEND.out _ HK5.out⟩
  by_cases hf : Vs.seqE b N = 0
  case neg =>
    have d2 : (Vs.seqE b N != 0) = true := by rw [bne_iff_ne]; exact hf
    rw [he]
    clear he hf ho4 ho5 hb5
    generalize Vs.seqE b N = F at *
    go_wp2_with fail
    go_ret
    exact ⟨rfl, HEND.out _ HK5.out⟩
  have hoka := (Vs.seqE_zero he).1
  have hokb := (Vs.seqE_zero hf).1
  have hSL : Vs.seqR a N = Vs.seqL a N := Vs.seqR_zero he
  have hSM : Vs.seqR b N = Vs.seqL b N := Vs.seqR_zero hf
  have HPV := Lib.hid (fun k0 k1 k2 (h0 : k0 < 6) (h1 : k1 < 6) (h2 : k2 < 6) => Vs.prevails hoka hokb (loc := N) (by omega) h0 h1 h2)
  have HSZ6 := Lib.hid (fun k0 k1 k2 j => Vs.six_size hoka hokb N k0 k1 k2 j)
  obtain ⟨kb1, kb2, kb3, kb4⟩ := Vs.okL_of hokb
  have HNU0 := Lib.hid (fun n (hn : n < 6) W => numbered_any 1 N (N + 3) n (Vs.primL b.vol) (by decide) (by omega) (by omega) (by omega) (by omega) (by omega) W)
  have HNU1 := Lib.hid (fun n (hn : n < 6) W => numbered_any 5 (N + 1) (N + 4) n (Vs.partL b.part) (by decide) (by omega) (by omega) (by omega) (by omega) (by omega) W)
  have HNU2 := Lib.hid (fun n (hn : n < 6) W => numbered_any 6 (N + 2) (N + 5) n (Vs.logL b) (by decide) (by omega) (by omega) (by omega) (by omega) (by omega) W)
  have hlb : 424 ≤ (Vs.logL b).length := by omega
  have HSM0 := Lib.hid (show (Vs.seqL b N).getD 0 ⟨#[]⟩ = bs (Vs.blk 1 1 N (Vs.primL b.vol)) from rfl)
  have HSM1 := Lib.hid (show (Vs.seqL b N).getD 1 ⟨#[]⟩ = bs (Vs.blk 5 1 (N + 1) (Vs.partL b.part)) from rfl)
  have HSM2 := Lib.hid (show (Vs.seqL b N).getD 2 ⟨#[]⟩ = bs (Vs.blk 6 1 (N + 2) (Vs.logL b)) from rfl)
  have HSL3 := Lib.hid (show (Vs.seqL a N).take 3 = [bs (Vs.blk 1 1 N (Vs.primL a.vol)), bs (Vs.blk 5 1 (N + 1) (Vs.partL a.part)), bs (Vs.blk 6 1 (N + 2) (Vs.logL a))] from rfl)
  have HSIX := Lib.hid (fun k0 k1 k2 => show Vs.six a b N k0 k1 k2 = [bs (Vs.blk 1 1 N (Vs.primL a.vol)), bs (Vs.blk 5 1 (N + 1) (Vs.partL a.part)), bs (Vs.blk 6 1 (N + 2) (Vs.logL a)), bs (Vs.blk 1 1 (N + 3) (Pm.le 4 k0 ++ (Vs.primL b.vol).drop 4)), bs (Vs.blk 5 1 (N + 4) (Pm.le 4 k1 ++ (Vs.partL b.part).drop 4)), bs (Vs.blk 6 1 (N + 5) (Pm.le 4 k2 ++ (Vs.logL b).drop 4))] from rfl)
  have hlen : (Vs.seqL a N).length = 16 := rfl
  have hlen2 : (Vs.seqL b N).length = 16 := rfl
  rw [he, hf]
  rw [hSL] at ho4
  rw [hSM] at ho5
  clear he hf hoka hokb hSL hSM kb1 kb2 kb3 kb4 CSA CSB CFA CFB HFA HFB
  generalize Vs.seqL a N = SL at *
  generalize Vs.seqL b N = SM at *
  rw [hlen] at ho4
  rw [hlen2] at ho5
  obtain ⟨g, cap, rfl⟩ := Vs.own_head (n := 15) ho4
  obtain ⟨gm, capm, rfl⟩ := Vs.own_head (n := 15) ho5
  have hb5' := hb5
  have HCL := Lib.hid (Vs.row_cells ho4 hlen hb5')
  have HCM := Lib.hid (Vs.row_cells ho5 hlen2 (Below.refl _ _))
  obtain ⟨_, _, hvv, hcap, -, -⟩ := Kit.Row.of_own ho4
  rw [Vs.strs_len, hlen] at hvv hcap
  obtain ⟨-, rfl⟩ : some (⟨g, 0, none⟩ : Addr) = _ ∧ cap = _ := by simpa using hvv
  have hcapz : (16 : Int) ≤ (cap : Int) := by omega
  clear hb5 hb5' ho4 ho5 hvv hcap
  go_upto_region 12 with fail
  have HBD := Lib.hid (show Below w5.heap.size w5 w5.drew from (Below.refl _ _).drew)
  have HKY := Lib.hid (HK5.out.trans (HBD.out.mono HK5.out.size))
  have HCLY := Lib.hid (show ∀ W, Below w5.drew.heap.size w5.drew W → ∀ j, j < 16 → W.cell? ⟨g, j, none⟩ = some (.string (SL.getD j ⟨#[]⟩)) from fun W h j hj => HCL.out W (HBD.out.trans (h.mono HBD.out.size)) j hj)
  have HCMY := Lib.hid (show ∀ W, Below w5.drew.heap.size w5.drew W → ∀ j, j < 16 → W.cell? ⟨gm, j, none⟩ = some (.string (SM.getD j ⟨#[]⟩)) from fun W h j hj => HCM.out W (HBD.out.trans (h.mono HBD.out.size)) j hj)
  clear HCL HCM HK4 HK5 HLB4
  refine Sg.firstcut (n := 6) [14, 15, 62, 63, 64, 65, 66] (fun vs w' => ∃ (v : Value) (gb : Nat) (p1 p2 p3 p4 : Value), vs = [v, .pointer (some ⟨gb, 0, none⟩), p1, p2, p3, p4, .agg KA] ∧ Hid (w'.ownsRow w5.drew.heap.size 9 1 v 3 (Vs.strs (SL.take 3))) ∧ Hid (w'.heap[gb]? = some (.cells #[.string ⟨#[]⟩, .string ⟨#[]⟩, .string ⟨#[]⟩, .string ⟨#[]⟩, .string ⟨#[]⟩, .int .i64 0, .int .i64 0, .int .i64 0, .int .i64 0, .int .i64 0, .int .i64 0, .int .i64 0, .int .i64 0, .int .i64 0, .int .i64 0, .string ⟨#[]⟩, .int .i64 0, .int .i64 0, .int .i64 0, .int .i64 0, .int .i64 0, .int .i64 0] 46 (0, 0))) ∧ Hid (w5.drew.heap.size ≤ gb) ∧ Hid (Below w5.drew.heap.size w5.drew w')) (by kernel_rfl) pvA_back pvA_g6 pvA_lt6 ?_ ?_
  case refine_2 =>
    have HBY0 := Lib.hid (Below.refl w5.drew.heap.size w5.drew)
    have HZY := Lib.hid (show ∀ W, Below w5.drew.heap.size w5.drew W → W.heap[w.heap.size]? = some (.cells ZA 46 (0, 0)) from fun W h => HZA.out W (HKY.out.trans (h.mono HKY.out.size)))
    have CC := Lib.hid (show ∀ W, Below w5.drew.heap.size w5.drew W → Calls Tryz.prog 29 #[.slice (some ⟨g, 0, none⟩) 3 cap] W (fun e w' => ∃ v', e = .returned v' ∧ w'.ownsRow W.heap.size 9 1 v' 3 (Vs.strs (SL.take 3)) ∧ Below W.heap.size W w') from fun W h => (CC0.out g cap SL W (by omega) (fun j hj => by rw [Nat.zero_add]; exact HCLY.out W h j (by omega))).mono fun e w' ⟨v', he, ho, _, hb⟩ => ⟨v', he, ho, hb⟩)
    clear HCLY HCMY
    generalize w5.drew = y0 at *
    clear hza hzb hka22 hkb22 hn0z hn1z hn2z hlb hN64 hlen hlen2 hn0 hn1 hn2 hN HTW HMW HEND HZA HZB HZN HKBD HKB1 HKA1 HPV HNU0 HNU1 HNU2 HSM0 HSM1 HSM2 HSL3 HSIX CKB CC0
    try clear hfa
    try clear hfb
    refine Sg.fork3 0 3 5 _ _ _ (by kernel_rfl) rfl rfl rfl ?_ ?_ ?_
    · go_wp2_with fail
      refine Sg.fork3 1 3 5 _ _ _ (by kernel_rfl) rfl rfl rfl ?_ ?_ ?_
      · go_wp2_with fail
        refine Sg.fork3 2 3 5 _ _ _ (by kernel_rfl) rfl rfl rfl ?_ ?_ ?_
        · go_wp2_with fail
          with_reducible refine (CC.out y0 HBY0.out).mono ?_
          rintro e x2 ⟨v2, rfl, ho2, hb2⟩
          have HO2 := Lib.hid (Kit.own_base ho2 HBY0.out.size)
          have HB2 := Lib.hid (HBY0.out.trans (hb2.mono HBY0.out.size))
          clear ho2 hb2
          go_wp2_with fail
          refine Sg.fork 3 5 _ _ (by kernel_rfl) rfl rfl ?_ ?_
          · have HL3 := Lib.hid (Vs.box_load a HZAD.out (HZY.out x2 HB2.out))
            go_wp2_with (refine wpList_load_at 46 _ rfl w.heap.size 0 rfl _ HL3.out (by rfl) ?_)
            refine Sg.fork 4 5 _ _ (by kernel_rfl) rfl rfl ?_ ?_
            · go_wp2_with fail
              with_reducible refine (CKA.out x2).mono ?_
              rintro e x4 ⟨rfl, hb4⟩
              have HB4 := Lib.hid (HB2.out.trans (hb4.mono HB2.out.size))
              have HO4 := Lib.hid (Kit.own_below HO2.out hb4)
              clear hb4
              go_wp2_with fail
              refine Sg.line1 5 _ (by kernel_rfl) rfl ?_
              go_wp2_with fail
              have HA5 := Lib.hid (heap_alloc_new x4 (.cells #[.string ⟨#[]⟩, .string ⟨#[]⟩, .string ⟨#[]⟩, .string ⟨#[]⟩, .string ⟨#[]⟩, .int .i64 0, .int .i64 0, .int .i64 0, .int .i64 0, .int .i64 0, .int .i64 0, .int .i64 0, .int .i64 0, .int .i64 0, .int .i64 0, .string ⟨#[]⟩, .int .i64 0, .int .i64 0, .int .i64 0, .int .i64 0, .int .i64 0, .int .i64 0] 46))
              have HB5 := Lib.hid (HB4.out.alloc HB4.out.size (.cells #[.string ⟨#[]⟩, .string ⟨#[]⟩, .string ⟨#[]⟩, .string ⟨#[]⟩, .string ⟨#[]⟩, .int .i64 0, .int .i64 0, .int .i64 0, .int .i64 0, .int .i64 0, .int .i64 0, .int .i64 0, .int .i64 0, .int .i64 0, .int .i64 0, .string ⟨#[]⟩, .int .i64 0, .int .i64 0, .int .i64 0, .int .i64 0, .int .i64 0, .int .i64 0] 46))
              have HS5 := Lib.hid HB4.out.size
              have HO5 := Lib.hid (HO4.out.alloc (.cells #[.string ⟨#[]⟩, .string ⟨#[]⟩, .string ⟨#[]⟩, .string ⟨#[]⟩, .string ⟨#[]⟩, .int .i64 0, .int .i64 0, .int .i64 0, .int .i64 0, .int .i64 0, .int .i64 0, .int .i64 0, .int .i64 0, .int .i64 0, .int .i64 0, .string ⟨#[]⟩, .int .i64 0, .int .i64 0, .int .i64 0, .int .i64 0, .int .i64 0, .int .i64 0] 46))
              generalize x4.alloc (.cells #[.string ⟨#[]⟩, .string ⟨#[]⟩, .string ⟨#[]⟩, .string ⟨#[]⟩, .string ⟨#[]⟩, .int .i64 0, .int .i64 0, .int .i64 0, .int .i64 0, .int .i64 0, .int .i64 0, .int .i64 0, .int .i64 0, .int .i64 0, .int .i64 0, .string ⟨#[]⟩, .int .i64 0, .int .i64 0, .int .i64 0, .int .i64 0, .int .i64 0, .int .i64 0] 46) = x5 at *
              refine Sg.line1 6 _ (by kernel_rfl) rfl ?_
              go_wp2_with fail
              exact ⟨[_, _, _, _, _, _, _], rfl, _, _, _, _, _, _, rfl, HO5, HA5, HS5, HB5⟩
            · go_wp2_with fail
              have HA7 := Lib.hid (heap_alloc_new x2 (.cells #[.string ⟨#[]⟩, .string ⟨#[]⟩, .string ⟨#[]⟩, .string ⟨#[]⟩, .string ⟨#[]⟩, .int .i64 0, .int .i64 0, .int .i64 0, .int .i64 0, .int .i64 0, .int .i64 0, .int .i64 0, .int .i64 0, .int .i64 0, .int .i64 0, .string ⟨#[]⟩, .int .i64 0, .int .i64 0, .int .i64 0, .int .i64 0, .int .i64 0, .int .i64 0] 46))
              have HB7 := Lib.hid (HB2.out.alloc HB2.out.size (.cells #[.string ⟨#[]⟩, .string ⟨#[]⟩, .string ⟨#[]⟩, .string ⟨#[]⟩, .string ⟨#[]⟩, .int .i64 0, .int .i64 0, .int .i64 0, .int .i64 0, .int .i64 0, .int .i64 0, .int .i64 0, .int .i64 0, .int .i64 0, .int .i64 0, .string ⟨#[]⟩, .int .i64 0, .int .i64 0, .int .i64 0, .int .i64 0, .int .i64 0, .int .i64 0] 46))
              have HS7 := Lib.hid HB2.out.size
              have HO7 := Lib.hid (HO2.out.alloc (.cells #[.string ⟨#[]⟩, .string ⟨#[]⟩, .string ⟨#[]⟩, .string ⟨#[]⟩, .string ⟨#[]⟩, .int .i64 0, .int .i64 0, .int .i64 0, .int .i64 0, .int .i64 0, .int .i64 0, .int .i64 0, .int .i64 0, .int .i64 0, .int .i64 0, .string ⟨#[]⟩, .int .i64 0, .int .i64 0, .int .i64 0, .int .i64 0, .int .i64 0, .int .i64 0] 46))
              generalize x2.alloc (.cells #[.string ⟨#[]⟩, .string ⟨#[]⟩, .string ⟨#[]⟩, .string ⟨#[]⟩, .string ⟨#[]⟩, .int .i64 0, .int .i64 0, .int .i64 0, .int .i64 0, .int .i64 0, .int .i64 0, .int .i64 0, .int .i64 0, .int .i64 0, .int .i64 0, .string ⟨#[]⟩, .int .i64 0, .int .i64 0, .int .i64 0, .int .i64 0, .int .i64 0, .int .i64 0] 46) = x7 at *
              refine Sg.line1 4 _ (by kernel_rfl) rfl ?_
              go_wp2_with fail
              with_reducible refine (CKA.out x7).mono ?_
              rintro e x8 ⟨rfl, hb8⟩
              have HB8 := Lib.hid (HB7.out.trans (hb8.mono HB7.out.size))
              have HO8 := Lib.hid (Kit.own_below HO7.out hb8)
              have HG8 := Lib.hid ((hb8.block x2.heap.size (Array.getElem?_eq_some_iff.1 HA7.out).1).trans HA7.out)
              clear hb8
              go_wp2_with fail
              refine Sg.line1 6 _ (by kernel_rfl) rfl ?_
              go_wp2_with fail
              exact ⟨[_, _, _, _, _, _, _], rfl, _, _, _, _, _, _, rfl, HO8, HG8, HS7, HB8⟩
          · go_wp2_with fail
            have HA10 := Lib.hid (heap_alloc_new x2 (.cells #[.string ⟨#[]⟩, .string ⟨#[]⟩, .string ⟨#[]⟩, .string ⟨#[]⟩, .string ⟨#[]⟩, .int .i64 0, .int .i64 0, .int .i64 0, .int .i64 0, .int .i64 0, .int .i64 0, .int .i64 0, .int .i64 0, .int .i64 0, .int .i64 0, .string ⟨#[]⟩, .int .i64 0, .int .i64 0, .int .i64 0, .int .i64 0, .int .i64 0, .int .i64 0] 46))
            have HB10 := Lib.hid (HB2.out.alloc HB2.out.size (.cells #[.string ⟨#[]⟩, .string ⟨#[]⟩, .string ⟨#[]⟩, .string ⟨#[]⟩, .string ⟨#[]⟩, .int .i64 0, .int .i64 0, .int .i64 0, .int .i64 0, .int .i64 0, .int .i64 0, .int .i64 0, .int .i64 0, .int .i64 0, .int .i64 0, .string ⟨#[]⟩, .int .i64 0, .int .i64 0, .int .i64 0, .int .i64 0, .int .i64 0, .int .i64 0] 46))
            have HS10 := Lib.hid HB2.out.size
            have HO10 := Lib.hid (HO2.out.alloc (.cells #[.string ⟨#[]⟩, .string ⟨#[]⟩, .string ⟨#[]⟩, .string ⟨#[]⟩, .string ⟨#[]⟩, .int .i64 0, .int .i64 0, .int .i64 0, .int .i64 0, .int .i64 0, .int .i64 0, .int .i64 0, .int .i64 0, .int .i64 0, .int .i64 0, .string ⟨#[]⟩, .int .i64 0, .int .i64 0, .int .i64 0, .int .i64 0, .int .i64 0, .int .i64 0] 46))
            generalize x2.alloc (.cells #[.string ⟨#[]⟩, .string ⟨#[]⟩, .string ⟨#[]⟩, .string ⟨#[]⟩, .string ⟨#[]⟩, .int .i64 0, .int .i64 0, .int .i64 0, .int .i64 0, .int .i64 0, .int .i64 0, .int .i64 0, .int .i64 0, .int .i64 0, .int .i64 0, .string ⟨#[]⟩, .int .i64 0, .int .i64 0, .int .i64 0, .int .i64 0, .int .i64 0, .int .i64 0] 46) = x10 at *
            refine Sg.line1 3 _ (by kernel_rfl) rfl ?_
            have HL11 := Lib.hid (Vs.box_load a HZAD.out (HZY.out x10 HB10.out))
            go_wp2_with (refine wpList_load_at 46 _ rfl w.heap.size 0 rfl _ HL11.out (by rfl) ?_)
            refine Sg.line1 4 _ (by kernel_rfl) rfl ?_
            go_wp2_with fail
            with_reducible refine (CKA.out x10).mono ?_
            rintro e x12 ⟨rfl, hb12⟩
            have HB12 := Lib.hid (HB10.out.trans (hb12.mono HB10.out.size))
            have HO12 := Lib.hid (Kit.own_below HO10.out hb12)
            have HG12 := Lib.hid ((hb12.block x2.heap.size (Array.getElem?_eq_some_iff.1 HA10.out).1).trans HA10.out)
            clear hb12
            go_wp2_with fail
            refine Sg.line1 6 _ (by kernel_rfl) rfl ?_
            go_wp2_with fail
            exact ⟨[_, _, _, _, _, _, _], rfl, _, _, _, _, _, _, rfl, HO12, HG12, HS10, HB12⟩
        · have HL14 := Lib.hid (Vs.box_load a HZAD.out (HZY.out y0 HBY0.out))
          go_wp2_with (refine wpList_load_at 46 _ rfl w.heap.size 0 rfl _ HL14.out (by rfl) ?_)
          refine Sg.fork 2 5 _ _ (by kernel_rfl) rfl rfl ?_ ?_
          · go_wp2_with fail
            with_reducible refine (CC.out y0 HBY0.out).mono ?_
            rintro e x15 ⟨v15, rfl, ho15, hb15⟩
            have HO15 := Lib.hid (Kit.own_base ho15 HBY0.out.size)
            have HB15 := Lib.hid (HBY0.out.trans (hb15.mono HBY0.out.size))
            clear ho15 hb15
            go_wp2_with fail
            refine Sg.fork 4 5 _ _ (by kernel_rfl) rfl rfl ?_ ?_
            · go_wp2_with fail
              with_reducible refine (CKA.out x15).mono ?_
              rintro e x16 ⟨rfl, hb16⟩
              have HB16 := Lib.hid (HB15.out.trans (hb16.mono HB15.out.size))
              have HO16 := Lib.hid (Kit.own_below HO15.out hb16)
              clear hb16
              go_wp2_with fail
              refine Sg.line1 5 _ (by kernel_rfl) rfl ?_
              go_wp2_with fail
              have HA17 := Lib.hid (heap_alloc_new x16 (.cells #[.string ⟨#[]⟩, .string ⟨#[]⟩, .string ⟨#[]⟩, .string ⟨#[]⟩, .string ⟨#[]⟩, .int .i64 0, .int .i64 0, .int .i64 0, .int .i64 0, .int .i64 0, .int .i64 0, .int .i64 0, .int .i64 0, .int .i64 0, .int .i64 0, .string ⟨#[]⟩, .int .i64 0, .int .i64 0, .int .i64 0, .int .i64 0, .int .i64 0, .int .i64 0] 46))
              have HB17 := Lib.hid (HB16.out.alloc HB16.out.size (.cells #[.string ⟨#[]⟩, .string ⟨#[]⟩, .string ⟨#[]⟩, .string ⟨#[]⟩, .string ⟨#[]⟩, .int .i64 0, .int .i64 0, .int .i64 0, .int .i64 0, .int .i64 0, .int .i64 0, .int .i64 0, .int .i64 0, .int .i64 0, .int .i64 0, .string ⟨#[]⟩, .int .i64 0, .int .i64 0, .int .i64 0, .int .i64 0, .int .i64 0, .int .i64 0] 46))
              have HS17 := Lib.hid HB16.out.size
              have HO17 := Lib.hid (HO16.out.alloc (.cells #[.string ⟨#[]⟩, .string ⟨#[]⟩, .string ⟨#[]⟩, .string ⟨#[]⟩, .string ⟨#[]⟩, .int .i64 0, .int .i64 0, .int .i64 0, .int .i64 0, .int .i64 0, .int .i64 0, .int .i64 0, .int .i64 0, .int .i64 0, .int .i64 0, .string ⟨#[]⟩, .int .i64 0, .int .i64 0, .int .i64 0, .int .i64 0, .int .i64 0, .int .i64 0] 46))
              generalize x16.alloc (.cells #[.string ⟨#[]⟩, .string ⟨#[]⟩, .string ⟨#[]⟩, .string ⟨#[]⟩, .string ⟨#[]⟩, .int .i64 0, .int .i64 0, .int .i64 0, .int .i64 0, .int .i64 0, .int .i64 0, .int .i64 0, .int .i64 0, .int .i64 0, .int .i64 0, .string ⟨#[]⟩, .int .i64 0, .int .i64 0, .int .i64 0, .int .i64 0, .int .i64 0, .int .i64 0] 46) = x17 at *
              refine Sg.line1 6 _ (by kernel_rfl) rfl ?_
              go_wp2_with fail
              exact ⟨[_, _, _, _, _, _, _], rfl, _, _, _, _, _, _, rfl, HO17, HA17, HS17, HB17⟩
            · go_wp2_with fail
              have HA19 := Lib.hid (heap_alloc_new x15 (.cells #[.string ⟨#[]⟩, .string ⟨#[]⟩, .string ⟨#[]⟩, .string ⟨#[]⟩, .string ⟨#[]⟩, .int .i64 0, .int .i64 0, .int .i64 0, .int .i64 0, .int .i64 0, .int .i64 0, .int .i64 0, .int .i64 0, .int .i64 0, .int .i64 0, .string ⟨#[]⟩, .int .i64 0, .int .i64 0, .int .i64 0, .int .i64 0, .int .i64 0, .int .i64 0] 46))
              have HB19 := Lib.hid (HB15.out.alloc HB15.out.size (.cells #[.string ⟨#[]⟩, .string ⟨#[]⟩, .string ⟨#[]⟩, .string ⟨#[]⟩, .string ⟨#[]⟩, .int .i64 0, .int .i64 0, .int .i64 0, .int .i64 0, .int .i64 0, .int .i64 0, .int .i64 0, .int .i64 0, .int .i64 0, .int .i64 0, .string ⟨#[]⟩, .int .i64 0, .int .i64 0, .int .i64 0, .int .i64 0, .int .i64 0, .int .i64 0] 46))
              have HS19 := Lib.hid HB15.out.size
              have HO19 := Lib.hid (HO15.out.alloc (.cells #[.string ⟨#[]⟩, .string ⟨#[]⟩, .string ⟨#[]⟩, .string ⟨#[]⟩, .string ⟨#[]⟩, .int .i64 0, .int .i64 0, .int .i64 0, .int .i64 0, .int .i64 0, .int .i64 0, .int .i64 0, .int .i64 0, .int .i64 0, .int .i64 0, .string ⟨#[]⟩, .int .i64 0, .int .i64 0, .int .i64 0, .int .i64 0, .int .i64 0, .int .i64 0] 46))
              generalize x15.alloc (.cells #[.string ⟨#[]⟩, .string ⟨#[]⟩, .string ⟨#[]⟩, .string ⟨#[]⟩, .string ⟨#[]⟩, .int .i64 0, .int .i64 0, .int .i64 0, .int .i64 0, .int .i64 0, .int .i64 0, .int .i64 0, .int .i64 0, .int .i64 0, .int .i64 0, .string ⟨#[]⟩, .int .i64 0, .int .i64 0, .int .i64 0, .int .i64 0, .int .i64 0, .int .i64 0] 46) = x19 at *
              refine Sg.line1 4 _ (by kernel_rfl) rfl ?_
              go_wp2_with fail
              with_reducible refine (CKA.out x19).mono ?_
              rintro e x20 ⟨rfl, hb20⟩
              have HB20 := Lib.hid (HB19.out.trans (hb20.mono HB19.out.size))
              have HO20 := Lib.hid (Kit.own_below HO19.out hb20)
              have HG20 := Lib.hid ((hb20.block x15.heap.size (Array.getElem?_eq_some_iff.1 HA19.out).1).trans HA19.out)
              clear hb20
              go_wp2_with fail
              refine Sg.line1 6 _ (by kernel_rfl) rfl ?_
              go_wp2_with fail
              exact ⟨[_, _, _, _, _, _, _], rfl, _, _, _, _, _, _, rfl, HO20, HG20, HS19, HB20⟩
          · go_wp2_with fail
            have HA22 := Lib.hid (heap_alloc_new y0 (.cells #[.string ⟨#[]⟩, .string ⟨#[]⟩, .string ⟨#[]⟩, .string ⟨#[]⟩, .string ⟨#[]⟩, .int .i64 0, .int .i64 0, .int .i64 0, .int .i64 0, .int .i64 0, .int .i64 0, .int .i64 0, .int .i64 0, .int .i64 0, .int .i64 0, .string ⟨#[]⟩, .int .i64 0, .int .i64 0, .int .i64 0, .int .i64 0, .int .i64 0, .int .i64 0] 46))
            have HB22 := Lib.hid (HBY0.out.alloc HBY0.out.size (.cells #[.string ⟨#[]⟩, .string ⟨#[]⟩, .string ⟨#[]⟩, .string ⟨#[]⟩, .string ⟨#[]⟩, .int .i64 0, .int .i64 0, .int .i64 0, .int .i64 0, .int .i64 0, .int .i64 0, .int .i64 0, .int .i64 0, .int .i64 0, .int .i64 0, .string ⟨#[]⟩, .int .i64 0, .int .i64 0, .int .i64 0, .int .i64 0, .int .i64 0, .int .i64 0] 46))
            have HS22 := Lib.hid HBY0.out.size
            generalize y0.alloc (.cells #[.string ⟨#[]⟩, .string ⟨#[]⟩, .string ⟨#[]⟩, .string ⟨#[]⟩, .string ⟨#[]⟩, .int .i64 0, .int .i64 0, .int .i64 0, .int .i64 0, .int .i64 0, .int .i64 0, .int .i64 0, .int .i64 0, .int .i64 0, .int .i64 0, .string ⟨#[]⟩, .int .i64 0, .int .i64 0, .int .i64 0, .int .i64 0, .int .i64 0, .int .i64 0] 46) = x22 at *
            refine Sg.line1 2 _ (by kernel_rfl) rfl ?_
            go_wp2_with fail
            with_reducible refine (CC.out x22 HB22.out).mono ?_
            rintro e x23 ⟨v23, rfl, ho23, hb23⟩
            have HO23 := Lib.hid (Kit.own_base ho23 HB22.out.size)
            have HB23 := Lib.hid (HB22.out.trans (hb23.mono HB22.out.size))
            have HG23 := Lib.hid ((hb23.block y0.heap.size (Array.getElem?_eq_some_iff.1 HA22.out).1).trans HA22.out)
            clear ho23 hb23
            go_wp2_with fail
            refine Sg.line1 4 _ (by kernel_rfl) rfl ?_
            go_wp2_with fail
            with_reducible refine (CKA.out x23).mono ?_
            rintro e x24 ⟨rfl, hb24⟩
            have HB24 := Lib.hid (HB23.out.trans (hb24.mono HB23.out.size))
            have HO24 := Lib.hid (Kit.own_below HO23.out hb24)
            have HG24 := Lib.hid ((hb24.block y0.heap.size (Array.getElem?_eq_some_iff.1 HG23.out).1).trans HG23.out)
            clear hb24
            go_wp2_with fail
            refine Sg.line1 6 _ (by kernel_rfl) rfl ?_
            go_wp2_with fail
            exact ⟨[_, _, _, _, _, _, _], rfl, _, _, _, _, _, _, rfl, HO24, HG24, HS22, HB24⟩
        · go_wp2_with fail
          have HA26 := Lib.hid (heap_alloc_new y0 (.cells #[.string ⟨#[]⟩, .string ⟨#[]⟩, .string ⟨#[]⟩, .string ⟨#[]⟩, .string ⟨#[]⟩, .int .i64 0, .int .i64 0, .int .i64 0, .int .i64 0, .int .i64 0, .int .i64 0, .int .i64 0, .int .i64 0, .int .i64 0, .int .i64 0, .string ⟨#[]⟩, .int .i64 0, .int .i64 0, .int .i64 0, .int .i64 0, .int .i64 0, .int .i64 0] 46))
          have HB26 := Lib.hid (HBY0.out.alloc HBY0.out.size (.cells #[.string ⟨#[]⟩, .string ⟨#[]⟩, .string ⟨#[]⟩, .string ⟨#[]⟩, .string ⟨#[]⟩, .int .i64 0, .int .i64 0, .int .i64 0, .int .i64 0, .int .i64 0, .int .i64 0, .int .i64 0, .int .i64 0, .int .i64 0, .int .i64 0, .string ⟨#[]⟩, .int .i64 0, .int .i64 0, .int .i64 0, .int .i64 0, .int .i64 0, .int .i64 0] 46))
          have HS26 := Lib.hid HBY0.out.size
          generalize y0.alloc (.cells #[.string ⟨#[]⟩, .string ⟨#[]⟩, .string ⟨#[]⟩, .string ⟨#[]⟩, .string ⟨#[]⟩, .int .i64 0, .int .i64 0, .int .i64 0, .int .i64 0, .int .i64 0, .int .i64 0, .int .i64 0, .int .i64 0, .int .i64 0, .int .i64 0, .string ⟨#[]⟩, .int .i64 0, .int .i64 0, .int .i64 0, .int .i64 0, .int .i64 0, .int .i64 0] 46) = x26 at *
          refine Sg.fork 2 3 _ _ (by kernel_rfl) rfl rfl ?_ ?_
          · go_wp2_with fail
            with_reducible refine (CC.out x26 HB26.out).mono ?_
            rintro e x27 ⟨v27, rfl, ho27, hb27⟩
            have HO27 := Lib.hid (Kit.own_base ho27 HB26.out.size)
            have HB27 := Lib.hid (HB26.out.trans (hb27.mono HB26.out.size))
            have HG27 := Lib.hid ((hb27.block y0.heap.size (Array.getElem?_eq_some_iff.1 HA26.out).1).trans HA26.out)
            clear ho27 hb27
            go_wp2_with fail
            refine Sg.line1 3 _ (by kernel_rfl) rfl ?_
            have HL28 := Lib.hid (Vs.box_load a HZAD.out (HZY.out x27 HB27.out))
            go_wp2_with (refine wpList_load_at 46 _ rfl w.heap.size 0 rfl _ HL28.out (by rfl) ?_)
            refine Sg.line1 4 _ (by kernel_rfl) rfl ?_
            go_wp2_with fail
            with_reducible refine (CKA.out x27).mono ?_
            rintro e x29 ⟨rfl, hb29⟩
            have HB29 := Lib.hid (HB27.out.trans (hb29.mono HB27.out.size))
            have HO29 := Lib.hid (Kit.own_below HO27.out hb29)
            have HG29 := Lib.hid ((hb29.block y0.heap.size (Array.getElem?_eq_some_iff.1 HG27.out).1).trans HG27.out)
            clear hb29
            go_wp2_with fail
            refine Sg.line1 6 _ (by kernel_rfl) rfl ?_
            go_wp2_with fail
            exact ⟨[_, _, _, _, _, _, _], rfl, _, _, _, _, _, _, rfl, HO29, HG29, HS26, HB29⟩
          · have HL31 := Lib.hid (Vs.box_load a HZAD.out (HZY.out x26 HB26.out))
            go_wp2_with (refine wpList_load_at 46 _ rfl w.heap.size 0 rfl _ HL31.out (by rfl) ?_)
            refine Sg.line1 2 _ (by kernel_rfl) rfl ?_
            go_wp2_with fail
            with_reducible refine (CC.out x26 HB26.out).mono ?_
            rintro e x32 ⟨v32, rfl, ho32, hb32⟩
            have HO32 := Lib.hid (Kit.own_base ho32 HB26.out.size)
            have HB32 := Lib.hid (HB26.out.trans (hb32.mono HB26.out.size))
            have HG32 := Lib.hid ((hb32.block y0.heap.size (Array.getElem?_eq_some_iff.1 HA26.out).1).trans HA26.out)
            clear ho32 hb32
            go_wp2_with fail
            refine Sg.line1 4 _ (by kernel_rfl) rfl ?_
            go_wp2_with fail
            with_reducible refine (CKA.out x32).mono ?_
            rintro e x33 ⟨rfl, hb33⟩
            have HB33 := Lib.hid (HB32.out.trans (hb33.mono HB32.out.size))
            have HO33 := Lib.hid (Kit.own_below HO32.out hb33)
            have HG33 := Lib.hid ((hb33.block y0.heap.size (Array.getElem?_eq_some_iff.1 HG32.out).1).trans HG32.out)
            clear hb33
            go_wp2_with fail
            refine Sg.line1 6 _ (by kernel_rfl) rfl ?_
            go_wp2_with fail
            exact ⟨[_, _, _, _, _, _, _], rfl, _, _, _, _, _, _, rfl, HO33, HG33, HS26, HB33⟩
      · have HL35 := Lib.hid (Vs.box_load a HZAD.out (HZY.out y0 HBY0.out))
        go_wp2_with (refine wpList_load_at 46 _ rfl w.heap.size 0 rfl _ HL35.out (by rfl) ?_)
        refine Sg.fork 1 5 _ _ (by kernel_rfl) rfl rfl ?_ ?_
        · go_wp2_with fail
          refine Sg.fork 2 5 _ _ (by kernel_rfl) rfl rfl ?_ ?_
          · go_wp2_with fail
            with_reducible refine (CC.out y0 HBY0.out).mono ?_
            rintro e x37 ⟨v37, rfl, ho37, hb37⟩
            have HO37 := Lib.hid (Kit.own_base ho37 HBY0.out.size)
            have HB37 := Lib.hid (HBY0.out.trans (hb37.mono HBY0.out.size))
            clear ho37 hb37
            go_wp2_with fail
            refine Sg.fork 4 5 _ _ (by kernel_rfl) rfl rfl ?_ ?_
            · go_wp2_with fail
              with_reducible refine (CKA.out x37).mono ?_
              rintro e x38 ⟨rfl, hb38⟩
              have HB38 := Lib.hid (HB37.out.trans (hb38.mono HB37.out.size))
              have HO38 := Lib.hid (Kit.own_below HO37.out hb38)
              clear hb38
              go_wp2_with fail
              refine Sg.line1 5 _ (by kernel_rfl) rfl ?_
              go_wp2_with fail
              have HA39 := Lib.hid (heap_alloc_new x38 (.cells #[.string ⟨#[]⟩, .string ⟨#[]⟩, .string ⟨#[]⟩, .string ⟨#[]⟩, .string ⟨#[]⟩, .int .i64 0, .int .i64 0, .int .i64 0, .int .i64 0, .int .i64 0, .int .i64 0, .int .i64 0, .int .i64 0, .int .i64 0, .int .i64 0, .string ⟨#[]⟩, .int .i64 0, .int .i64 0, .int .i64 0, .int .i64 0, .int .i64 0, .int .i64 0] 46))
              have HB39 := Lib.hid (HB38.out.alloc HB38.out.size (.cells #[.string ⟨#[]⟩, .string ⟨#[]⟩, .string ⟨#[]⟩, .string ⟨#[]⟩, .string ⟨#[]⟩, .int .i64 0, .int .i64 0, .int .i64 0, .int .i64 0, .int .i64 0, .int .i64 0, .int .i64 0, .int .i64 0, .int .i64 0, .int .i64 0, .string ⟨#[]⟩, .int .i64 0, .int .i64 0, .int .i64 0, .int .i64 0, .int .i64 0, .int .i64 0] 46))
              have HS39 := Lib.hid HB38.out.size
              have HO39 := Lib.hid (HO38.out.alloc (.cells #[.string ⟨#[]⟩, .string ⟨#[]⟩, .string ⟨#[]⟩, .string ⟨#[]⟩, .string ⟨#[]⟩, .int .i64 0, .int .i64 0, .int .i64 0, .int .i64 0, .int .i64 0, .int .i64 0, .int .i64 0, .int .i64 0, .int .i64 0, .int .i64 0, .string ⟨#[]⟩, .int .i64 0, .int .i64 0, .int .i64 0, .int .i64 0, .int .i64 0, .int .i64 0] 46))
              generalize x38.alloc (.cells #[.string ⟨#[]⟩, .string ⟨#[]⟩, .string ⟨#[]⟩, .string ⟨#[]⟩, .string ⟨#[]⟩, .int .i64 0, .int .i64 0, .int .i64 0, .int .i64 0, .int .i64 0, .int .i64 0, .int .i64 0, .int .i64 0, .int .i64 0, .int .i64 0, .string ⟨#[]⟩, .int .i64 0, .int .i64 0, .int .i64 0, .int .i64 0, .int .i64 0, .int .i64 0] 46) = x39 at *
              refine Sg.line1 6 _ (by kernel_rfl) rfl ?_
              go_wp2_with fail
              exact ⟨[_, _, _, _, _, _, _], rfl, _, _, _, _, _, _, rfl, HO39, HA39, HS39, HB39⟩
            · go_wp2_with fail
              have HA41 := Lib.hid (heap_alloc_new x37 (.cells #[.string ⟨#[]⟩, .string ⟨#[]⟩, .string ⟨#[]⟩, .string ⟨#[]⟩, .string ⟨#[]⟩, .int .i64 0, .int .i64 0, .int .i64 0, .int .i64 0, .int .i64 0, .int .i64 0, .int .i64 0, .int .i64 0, .int .i64 0, .int .i64 0, .string ⟨#[]⟩, .int .i64 0, .int .i64 0, .int .i64 0, .int .i64 0, .int .i64 0, .int .i64 0] 46))
              have HB41 := Lib.hid (HB37.out.alloc HB37.out.size (.cells #[.string ⟨#[]⟩, .string ⟨#[]⟩, .string ⟨#[]⟩, .string ⟨#[]⟩, .string ⟨#[]⟩, .int .i64 0, .int .i64 0, .int .i64 0, .int .i64 0, .int .i64 0, .int .i64 0, .int .i64 0, .int .i64 0, .int .i64 0, .int .i64 0, .string ⟨#[]⟩, .int .i64 0, .int .i64 0, .int .i64 0, .int .i64 0, .int .i64 0, .int .i64 0] 46))
              have HS41 := Lib.hid HB37.out.size
              have HO41 := Lib.hid (HO37.out.alloc (.cells #[.string ⟨#[]⟩, .string ⟨#[]⟩, .string ⟨#[]⟩, .string ⟨#[]⟩, .string ⟨#[]⟩, .int .i64 0, .int .i64 0, .int .i64 0, .int .i64 0, .int .i64 0, .int .i64 0, .int .i64 0, .int .i64 0, .int .i64 0, .int .i64 0, .string ⟨#[]⟩, .int .i64 0, .int .i64 0, .int .i64 0, .int .i64 0, .int .i64 0, .int .i64 0] 46))
              generalize x37.alloc (.cells #[.string ⟨#[]⟩, .string ⟨#[]⟩, .string ⟨#[]⟩, .string ⟨#[]⟩, .string ⟨#[]⟩, .int .i64 0, .int .i64 0, .int .i64 0, .int .i64 0, .int .i64 0, .int .i64 0, .int .i64 0, .int .i64 0, .int .i64 0, .int .i64 0, .string ⟨#[]⟩, .int .i64 0, .int .i64 0, .int .i64 0, .int .i64 0, .int .i64 0, .int .i64 0] 46) = x41 at *
              refine Sg.line1 4 _ (by kernel_rfl) rfl ?_
              go_wp2_with fail
              with_reducible refine (CKA.out x41).mono ?_
              rintro e x42 ⟨rfl, hb42⟩
              have HB42 := Lib.hid (HB41.out.trans (hb42.mono HB41.out.size))
              have HO42 := Lib.hid (Kit.own_below HO41.out hb42)
              have HG42 := Lib.hid ((hb42.block x37.heap.size (Array.getElem?_eq_some_iff.1 HA41.out).1).trans HA41.out)
              clear hb42
              go_wp2_with fail
              refine Sg.line1 6 _ (by kernel_rfl) rfl ?_
              go_wp2_with fail
              exact ⟨[_, _, _, _, _, _, _], rfl, _, _, _, _, _, _, rfl, HO42, HG42, HS41, HB42⟩
          · go_wp2_with fail
            have HA44 := Lib.hid (heap_alloc_new y0 (.cells #[.string ⟨#[]⟩, .string ⟨#[]⟩, .string ⟨#[]⟩, .string ⟨#[]⟩, .string ⟨#[]⟩, .int .i64 0, .int .i64 0, .int .i64 0, .int .i64 0, .int .i64 0, .int .i64 0, .int .i64 0, .int .i64 0, .int .i64 0, .int .i64 0, .string ⟨#[]⟩, .int .i64 0, .int .i64 0, .int .i64 0, .int .i64 0, .int .i64 0, .int .i64 0] 46))
            have HB44 := Lib.hid (HBY0.out.alloc HBY0.out.size (.cells #[.string ⟨#[]⟩, .string ⟨#[]⟩, .string ⟨#[]⟩, .string ⟨#[]⟩, .string ⟨#[]⟩, .int .i64 0, .int .i64 0, .int .i64 0, .int .i64 0, .int .i64 0, .int .i64 0, .int .i64 0, .int .i64 0, .int .i64 0, .int .i64 0, .string ⟨#[]⟩, .int .i64 0, .int .i64 0, .int .i64 0, .int .i64 0, .int .i64 0, .int .i64 0] 46))
            have HS44 := Lib.hid HBY0.out.size
            generalize y0.alloc (.cells #[.string ⟨#[]⟩, .string ⟨#[]⟩, .string ⟨#[]⟩, .string ⟨#[]⟩, .string ⟨#[]⟩, .int .i64 0, .int .i64 0, .int .i64 0, .int .i64 0, .int .i64 0, .int .i64 0, .int .i64 0, .int .i64 0, .int .i64 0, .int .i64 0, .string ⟨#[]⟩, .int .i64 0, .int .i64 0, .int .i64 0, .int .i64 0, .int .i64 0, .int .i64 0] 46) = x44 at *
            refine Sg.line1 2 _ (by kernel_rfl) rfl ?_
            go_wp2_with fail
            with_reducible refine (CC.out x44 HB44.out).mono ?_
            rintro e x45 ⟨v45, rfl, ho45, hb45⟩
            have HO45 := Lib.hid (Kit.own_base ho45 HB44.out.size)
            have HB45 := Lib.hid (HB44.out.trans (hb45.mono HB44.out.size))
            have HG45 := Lib.hid ((hb45.block y0.heap.size (Array.getElem?_eq_some_iff.1 HA44.out).1).trans HA44.out)
            clear ho45 hb45
            go_wp2_with fail
            refine Sg.line1 4 _ (by kernel_rfl) rfl ?_
            go_wp2_with fail
            with_reducible refine (CKA.out x45).mono ?_
            rintro e x46 ⟨rfl, hb46⟩
            have HB46 := Lib.hid (HB45.out.trans (hb46.mono HB45.out.size))
            have HO46 := Lib.hid (Kit.own_below HO45.out hb46)
            have HG46 := Lib.hid ((hb46.block y0.heap.size (Array.getElem?_eq_some_iff.1 HG45.out).1).trans HG45.out)
            clear hb46
            go_wp2_with fail
            refine Sg.line1 6 _ (by kernel_rfl) rfl ?_
            go_wp2_with fail
            exact ⟨[_, _, _, _, _, _, _], rfl, _, _, _, _, _, _, rfl, HO46, HG46, HS44, HB46⟩
        · go_wp2_with fail
          have HA48 := Lib.hid (heap_alloc_new y0 (.cells #[.string ⟨#[]⟩, .string ⟨#[]⟩, .string ⟨#[]⟩, .string ⟨#[]⟩, .string ⟨#[]⟩, .int .i64 0, .int .i64 0, .int .i64 0, .int .i64 0, .int .i64 0, .int .i64 0, .int .i64 0, .int .i64 0, .int .i64 0, .int .i64 0, .string ⟨#[]⟩, .int .i64 0, .int .i64 0, .int .i64 0, .int .i64 0, .int .i64 0, .int .i64 0] 46))
          have HB48 := Lib.hid (HBY0.out.alloc HBY0.out.size (.cells #[.string ⟨#[]⟩, .string ⟨#[]⟩, .string ⟨#[]⟩, .string ⟨#[]⟩, .string ⟨#[]⟩, .int .i64 0, .int .i64 0, .int .i64 0, .int .i64 0, .int .i64 0, .int .i64 0, .int .i64 0, .int .i64 0, .int .i64 0, .int .i64 0, .string ⟨#[]⟩, .int .i64 0, .int .i64 0, .int .i64 0, .int .i64 0, .int .i64 0, .int .i64 0] 46))
          have HS48 := Lib.hid HBY0.out.size
          generalize y0.alloc (.cells #[.string ⟨#[]⟩, .string ⟨#[]⟩, .string ⟨#[]⟩, .string ⟨#[]⟩, .string ⟨#[]⟩, .int .i64 0, .int .i64 0, .int .i64 0, .int .i64 0, .int .i64 0, .int .i64 0, .int .i64 0, .int .i64 0, .int .i64 0, .int .i64 0, .string ⟨#[]⟩, .int .i64 0, .int .i64 0, .int .i64 0, .int .i64 0, .int .i64 0, .int .i64 0] 46) = x48 at *
          refine Sg.line1 1 _ (by kernel_rfl) rfl ?_
          go_wp2_with fail
          refine Sg.line1 2 _ (by kernel_rfl) rfl ?_
          go_wp2_with fail
          with_reducible refine (CC.out x48 HB48.out).mono ?_
          rintro e x50 ⟨v50, rfl, ho50, hb50⟩
          have HO50 := Lib.hid (Kit.own_base ho50 HB48.out.size)
          have HB50 := Lib.hid (HB48.out.trans (hb50.mono HB48.out.size))
          have HG50 := Lib.hid ((hb50.block y0.heap.size (Array.getElem?_eq_some_iff.1 HA48.out).1).trans HA48.out)
          clear ho50 hb50
          go_wp2_with fail
          refine Sg.line1 4 _ (by kernel_rfl) rfl ?_
          go_wp2_with fail
          with_reducible refine (CKA.out x50).mono ?_
          rintro e x51 ⟨rfl, hb51⟩
          have HB51 := Lib.hid (HB50.out.trans (hb51.mono HB50.out.size))
          have HO51 := Lib.hid (Kit.own_below HO50.out hb51)
          have HG51 := Lib.hid ((hb51.block y0.heap.size (Array.getElem?_eq_some_iff.1 HG50.out).1).trans HG50.out)
          clear hb51
          go_wp2_with fail
          refine Sg.line1 6 _ (by kernel_rfl) rfl ?_
          go_wp2_with fail
          exact ⟨[_, _, _, _, _, _, _], rfl, _, _, _, _, _, _, rfl, HO51, HG51, HS48, HB51⟩
      · go_wp2_with fail
        have HA53 := Lib.hid (heap_alloc_new y0 (.cells #[.string ⟨#[]⟩, .string ⟨#[]⟩, .string ⟨#[]⟩, .string ⟨#[]⟩, .string ⟨#[]⟩, .int .i64 0, .int .i64 0, .int .i64 0, .int .i64 0, .int .i64 0, .int .i64 0, .int .i64 0, .int .i64 0, .int .i64 0, .int .i64 0, .string ⟨#[]⟩, .int .i64 0, .int .i64 0, .int .i64 0, .int .i64 0, .int .i64 0, .int .i64 0] 46))
        have HB53 := Lib.hid (HBY0.out.alloc HBY0.out.size (.cells #[.string ⟨#[]⟩, .string ⟨#[]⟩, .string ⟨#[]⟩, .string ⟨#[]⟩, .string ⟨#[]⟩, .int .i64 0, .int .i64 0, .int .i64 0, .int .i64 0, .int .i64 0, .int .i64 0, .int .i64 0, .int .i64 0, .int .i64 0, .int .i64 0, .string ⟨#[]⟩, .int .i64 0, .int .i64 0, .int .i64 0, .int .i64 0, .int .i64 0, .int .i64 0] 46))
        have HS53 := Lib.hid HBY0.out.size
        generalize y0.alloc (.cells #[.string ⟨#[]⟩, .string ⟨#[]⟩, .string ⟨#[]⟩, .string ⟨#[]⟩, .string ⟨#[]⟩, .int .i64 0, .int .i64 0, .int .i64 0, .int .i64 0, .int .i64 0, .int .i64 0, .int .i64 0, .int .i64 0, .int .i64 0, .int .i64 0, .string ⟨#[]⟩, .int .i64 0, .int .i64 0, .int .i64 0, .int .i64 0, .int .i64 0, .int .i64 0] 46) = x53 at *
        refine Sg.fork 1 3 _ _ (by kernel_rfl) rfl rfl ?_ ?_
        · go_wp2_with fail
          refine Sg.fork 2 3 _ _ (by kernel_rfl) rfl rfl ?_ ?_
          · go_wp2_with fail
            with_reducible refine (CC.out x53 HB53.out).mono ?_
            rintro e x55 ⟨v55, rfl, ho55, hb55⟩
            have HO55 := Lib.hid (Kit.own_base ho55 HB53.out.size)
            have HB55 := Lib.hid (HB53.out.trans (hb55.mono HB53.out.size))
            have HG55 := Lib.hid ((hb55.block y0.heap.size (Array.getElem?_eq_some_iff.1 HA53.out).1).trans HA53.out)
            clear ho55 hb55
            go_wp2_with fail
            refine Sg.line1 3 _ (by kernel_rfl) rfl ?_
            have HL56 := Lib.hid (Vs.box_load a HZAD.out (HZY.out x55 HB55.out))
            go_wp2_with (refine wpList_load_at 46 _ rfl w.heap.size 0 rfl _ HL56.out (by rfl) ?_)
            refine Sg.line1 4 _ (by kernel_rfl) rfl ?_
            go_wp2_with fail
            with_reducible refine (CKA.out x55).mono ?_
            rintro e x57 ⟨rfl, hb57⟩
            have HB57 := Lib.hid (HB55.out.trans (hb57.mono HB55.out.size))
            have HO57 := Lib.hid (Kit.own_below HO55.out hb57)
            have HG57 := Lib.hid ((hb57.block y0.heap.size (Array.getElem?_eq_some_iff.1 HG55.out).1).trans HG55.out)
            clear hb57
            go_wp2_with fail
            refine Sg.line1 6 _ (by kernel_rfl) rfl ?_
            go_wp2_with fail
            exact ⟨[_, _, _, _, _, _, _], rfl, _, _, _, _, _, _, rfl, HO57, HG57, HS53, HB57⟩
          · have HL59 := Lib.hid (Vs.box_load a HZAD.out (HZY.out x53 HB53.out))
            go_wp2_with (refine wpList_load_at 46 _ rfl w.heap.size 0 rfl _ HL59.out (by rfl) ?_)
            refine Sg.line1 2 _ (by kernel_rfl) rfl ?_
            go_wp2_with fail
            with_reducible refine (CC.out x53 HB53.out).mono ?_
            rintro e x60 ⟨v60, rfl, ho60, hb60⟩
            have HO60 := Lib.hid (Kit.own_base ho60 HB53.out.size)
            have HB60 := Lib.hid (HB53.out.trans (hb60.mono HB53.out.size))
            have HG60 := Lib.hid ((hb60.block y0.heap.size (Array.getElem?_eq_some_iff.1 HA53.out).1).trans HA53.out)
            clear ho60 hb60
            go_wp2_with fail
            refine Sg.line1 4 _ (by kernel_rfl) rfl ?_
            go_wp2_with fail
            with_reducible refine (CKA.out x60).mono ?_
            rintro e x61 ⟨rfl, hb61⟩
            have HB61 := Lib.hid (HB60.out.trans (hb61.mono HB60.out.size))
            have HO61 := Lib.hid (Kit.own_below HO60.out hb61)
            have HG61 := Lib.hid ((hb61.block y0.heap.size (Array.getElem?_eq_some_iff.1 HG60.out).1).trans HG60.out)
            clear hb61
            go_wp2_with fail
            refine Sg.line1 6 _ (by kernel_rfl) rfl ?_
            go_wp2_with fail
            exact ⟨[_, _, _, _, _, _, _], rfl, _, _, _, _, _, _, rfl, HO61, HG61, HS53, HB61⟩
        · have HL63 := Lib.hid (Vs.box_load a HZAD.out (HZY.out x53 HB53.out))
          go_wp2_with (refine wpList_load_at 46 _ rfl w.heap.size 0 rfl _ HL63.out (by rfl) ?_)
          refine Sg.line1 1 _ (by kernel_rfl) rfl ?_
          go_wp2_with fail
          refine Sg.line1 2 _ (by kernel_rfl) rfl ?_
          go_wp2_with fail
          with_reducible refine (CC.out x53 HB53.out).mono ?_
          rintro e x65 ⟨v65, rfl, ho65, hb65⟩
          have HO65 := Lib.hid (Kit.own_base ho65 HB53.out.size)
          have HB65 := Lib.hid (HB53.out.trans (hb65.mono HB53.out.size))
          have HG65 := Lib.hid ((hb65.block y0.heap.size (Array.getElem?_eq_some_iff.1 HA53.out).1).trans HA53.out)
          clear ho65 hb65
          go_wp2_with fail
          refine Sg.line1 4 _ (by kernel_rfl) rfl ?_
          go_wp2_with fail
          with_reducible refine (CKA.out x65).mono ?_
          rintro e x66 ⟨rfl, hb66⟩
          have HB66 := Lib.hid (HB65.out.trans (hb66.mono HB65.out.size))
          have HO66 := Lib.hid (Kit.own_below HO65.out hb66)
          have HG66 := Lib.hid ((hb66.block y0.heap.size (Array.getElem?_eq_some_iff.1 HG65.out).1).trans HG65.out)
          clear hb66
          go_wp2_with fail
          refine Sg.line1 6 _ (by kernel_rfl) rfl ?_
          go_wp2_with fail
          exact ⟨[_, _, _, _, _, _, _], rfl, _, _, _, _, _, _, rfl, HO66, HG66, HS53, HB66⟩
    · have HL68 := Lib.hid (Vs.box_load a HZAD.out (HZY.out y0 HBY0.out))
      go_wp2_with (refine wpList_load_at 46 _ rfl w.heap.size 0 rfl _ HL68.out (by rfl) ?_)
      refine Sg.fork 0 5 _ _ (by kernel_rfl) rfl rfl ?_ ?_
      · go_wp2_with fail
        refine Sg.fork 1 5 _ _ (by kernel_rfl) rfl rfl ?_ ?_
        · go_wp2_with fail
          refine Sg.fork 2 5 _ _ (by kernel_rfl) rfl rfl ?_ ?_
          · go_wp2_with fail
            with_reducible refine (CC.out y0 HBY0.out).mono ?_
            rintro e x71 ⟨v71, rfl, ho71, hb71⟩
            have HO71 := Lib.hid (Kit.own_base ho71 HBY0.out.size)
            have HB71 := Lib.hid (HBY0.out.trans (hb71.mono HBY0.out.size))
            clear ho71 hb71
            go_wp2_with fail
            refine Sg.fork 4 5 _ _ (by kernel_rfl) rfl rfl ?_ ?_
            · go_wp2_with fail
              with_reducible refine (CKA.out x71).mono ?_
              rintro e x72 ⟨rfl, hb72⟩
              have HB72 := Lib.hid (HB71.out.trans (hb72.mono HB71.out.size))
              have HO72 := Lib.hid (Kit.own_below HO71.out hb72)
              clear hb72
              go_wp2_with fail
              refine Sg.line1 5 _ (by kernel_rfl) rfl ?_
              go_wp2_with fail
              have HA73 := Lib.hid (heap_alloc_new x72 (.cells #[.string ⟨#[]⟩, .string ⟨#[]⟩, .string ⟨#[]⟩, .string ⟨#[]⟩, .string ⟨#[]⟩, .int .i64 0, .int .i64 0, .int .i64 0, .int .i64 0, .int .i64 0, .int .i64 0, .int .i64 0, .int .i64 0, .int .i64 0, .int .i64 0, .string ⟨#[]⟩, .int .i64 0, .int .i64 0, .int .i64 0, .int .i64 0, .int .i64 0, .int .i64 0] 46))
              have HB73 := Lib.hid (HB72.out.alloc HB72.out.size (.cells #[.string ⟨#[]⟩, .string ⟨#[]⟩, .string ⟨#[]⟩, .string ⟨#[]⟩, .string ⟨#[]⟩, .int .i64 0, .int .i64 0, .int .i64 0, .int .i64 0, .int .i64 0, .int .i64 0, .int .i64 0, .int .i64 0, .int .i64 0, .int .i64 0, .string ⟨#[]⟩, .int .i64 0, .int .i64 0, .int .i64 0, .int .i64 0, .int .i64 0, .int .i64 0] 46))
              have HS73 := Lib.hid HB72.out.size
              have HO73 := Lib.hid (HO72.out.alloc (.cells #[.string ⟨#[]⟩, .string ⟨#[]⟩, .string ⟨#[]⟩, .string ⟨#[]⟩, .string ⟨#[]⟩, .int .i64 0, .int .i64 0, .int .i64 0, .int .i64 0, .int .i64 0, .int .i64 0, .int .i64 0, .int .i64 0, .int .i64 0, .int .i64 0, .string ⟨#[]⟩, .int .i64 0, .int .i64 0, .int .i64 0, .int .i64 0, .int .i64 0, .int .i64 0] 46))
              generalize x72.alloc (.cells #[.string ⟨#[]⟩, .string ⟨#[]⟩, .string ⟨#[]⟩, .string ⟨#[]⟩, .string ⟨#[]⟩, .int .i64 0, .int .i64 0, .int .i64 0, .int .i64 0, .int .i64 0, .int .i64 0, .int .i64 0, .int .i64 0, .int .i64 0, .int .i64 0, .string ⟨#[]⟩, .int .i64 0, .int .i64 0, .int .i64 0, .int .i64 0, .int .i64 0, .int .i64 0] 46) = x73 at *
              refine Sg.line1 6 _ (by kernel_rfl) rfl ?_
              go_wp2_with fail
              exact ⟨[_, _, _, _, _, _, _], rfl, _, _, _, _, _, _, rfl, HO73, HA73, HS73, HB73⟩
            · go_wp2_with fail
              have HA75 := Lib.hid (heap_alloc_new x71 (.cells #[.string ⟨#[]⟩, .string ⟨#[]⟩, .string ⟨#[]⟩, .string ⟨#[]⟩, .string ⟨#[]⟩, .int .i64 0, .int .i64 0, .int .i64 0, .int .i64 0, .int .i64 0, .int .i64 0, .int .i64 0, .int .i64 0, .int .i64 0, .int .i64 0, .string ⟨#[]⟩, .int .i64 0, .int .i64 0, .int .i64 0, .int .i64 0, .int .i64 0, .int .i64 0] 46))
              have HB75 := Lib.hid (HB71.out.alloc HB71.out.size (.cells #[.string ⟨#[]⟩, .string ⟨#[]⟩, .string ⟨#[]⟩, .string ⟨#[]⟩, .string ⟨#[]⟩, .int .i64 0, .int .i64 0, .int .i64 0, .int .i64 0, .int .i64 0, .int .i64 0, .int .i64 0, .int .i64 0, .int .i64 0, .int .i64 0, .string ⟨#[]⟩, .int .i64 0, .int .i64 0, .int .i64 0, .int .i64 0, .int .i64 0, .int .i64 0] 46))
              have HS75 := Lib.hid HB71.out.size
              have HO75 := Lib.hid (HO71.out.alloc (.cells #[.string ⟨#[]⟩, .string ⟨#[]⟩, .string ⟨#[]⟩, .string ⟨#[]⟩, .string ⟨#[]⟩, .int .i64 0, .int .i64 0, .int .i64 0, .int .i64 0, .int .i64 0, .int .i64 0, .int .i64 0, .int .i64 0, .int .i64 0, .int .i64 0, .string ⟨#[]⟩, .int .i64 0, .int .i64 0, .int .i64 0, .int .i64 0, .int .i64 0, .int .i64 0] 46))
              generalize x71.alloc (.cells #[.string ⟨#[]⟩, .string ⟨#[]⟩, .string ⟨#[]⟩, .string ⟨#[]⟩, .string ⟨#[]⟩, .int .i64 0, .int .i64 0, .int .i64 0, .int .i64 0, .int .i64 0, .int .i64 0, .int .i64 0, .int .i64 0, .int .i64 0, .int .i64 0, .string ⟨#[]⟩, .int .i64 0, .int .i64 0, .int .i64 0, .int .i64 0, .int .i64 0, .int .i64 0] 46) = x75 at *
              refine Sg.line1 4 _ (by kernel_rfl) rfl ?_
              go_wp2_with fail
              with_reducible refine (CKA.out x75).mono ?_
              rintro e x76 ⟨rfl, hb76⟩
              have HB76 := Lib.hid (HB75.out.trans (hb76.mono HB75.out.size))
              have HO76 := Lib.hid (Kit.own_below HO75.out hb76)
              have HG76 := Lib.hid ((hb76.block x71.heap.size (Array.getElem?_eq_some_iff.1 HA75.out).1).trans HA75.out)
              clear hb76
              go_wp2_with fail
              refine Sg.line1 6 _ (by kernel_rfl) rfl ?_
              go_wp2_with fail
              exact ⟨[_, _, _, _, _, _, _], rfl, _, _, _, _, _, _, rfl, HO76, HG76, HS75, HB76⟩
          · go_wp2_with fail
            have HA78 := Lib.hid (heap_alloc_new y0 (.cells #[.string ⟨#[]⟩, .string ⟨#[]⟩, .string ⟨#[]⟩, .string ⟨#[]⟩, .string ⟨#[]⟩, .int .i64 0, .int .i64 0, .int .i64 0, .int .i64 0, .int .i64 0, .int .i64 0, .int .i64 0, .int .i64 0, .int .i64 0, .int .i64 0, .string ⟨#[]⟩, .int .i64 0, .int .i64 0, .int .i64 0, .int .i64 0, .int .i64 0, .int .i64 0] 46))
            have HB78 := Lib.hid (HBY0.out.alloc HBY0.out.size (.cells #[.string ⟨#[]⟩, .string ⟨#[]⟩, .string ⟨#[]⟩, .string ⟨#[]⟩, .string ⟨#[]⟩, .int .i64 0, .int .i64 0, .int .i64 0, .int .i64 0, .int .i64 0, .int .i64 0, .int .i64 0, .int .i64 0, .int .i64 0, .int .i64 0, .string ⟨#[]⟩, .int .i64 0, .int .i64 0, .int .i64 0, .int .i64 0, .int .i64 0, .int .i64 0] 46))
            have HS78 := Lib.hid HBY0.out.size
            generalize y0.alloc (.cells #[.string ⟨#[]⟩, .string ⟨#[]⟩, .string ⟨#[]⟩, .string ⟨#[]⟩, .string ⟨#[]⟩, .int .i64 0, .int .i64 0, .int .i64 0, .int .i64 0, .int .i64 0, .int .i64 0, .int .i64 0, .int .i64 0, .int .i64 0, .int .i64 0, .string ⟨#[]⟩, .int .i64 0, .int .i64 0, .int .i64 0, .int .i64 0, .int .i64 0, .int .i64 0] 46) = x78 at *
            refine Sg.line1 2 _ (by kernel_rfl) rfl ?_
            go_wp2_with fail
            with_reducible refine (CC.out x78 HB78.out).mono ?_
            rintro e x79 ⟨v79, rfl, ho79, hb79⟩
            have HO79 := Lib.hid (Kit.own_base ho79 HB78.out.size)
            have HB79 := Lib.hid (HB78.out.trans (hb79.mono HB78.out.size))
            have HG79 := Lib.hid ((hb79.block y0.heap.size (Array.getElem?_eq_some_iff.1 HA78.out).1).trans HA78.out)
            clear ho79 hb79
            go_wp2_with fail
            refine Sg.line1 4 _ (by kernel_rfl) rfl ?_
            go_wp2_with fail
            with_reducible refine (CKA.out x79).mono ?_
            rintro e x80 ⟨rfl, hb80⟩
            have HB80 := Lib.hid (HB79.out.trans (hb80.mono HB79.out.size))
            have HO80 := Lib.hid (Kit.own_below HO79.out hb80)
            have HG80 := Lib.hid ((hb80.block y0.heap.size (Array.getElem?_eq_some_iff.1 HG79.out).1).trans HG79.out)
            clear hb80
            go_wp2_with fail
            refine Sg.line1 6 _ (by kernel_rfl) rfl ?_
            go_wp2_with fail
            exact ⟨[_, _, _, _, _, _, _], rfl, _, _, _, _, _, _, rfl, HO80, HG80, HS78, HB80⟩
        · go_wp2_with fail
          have HA82 := Lib.hid (heap_alloc_new y0 (.cells #[.string ⟨#[]⟩, .string ⟨#[]⟩, .string ⟨#[]⟩, .string ⟨#[]⟩, .string ⟨#[]⟩, .int .i64 0, .int .i64 0, .int .i64 0, .int .i64 0, .int .i64 0, .int .i64 0, .int .i64 0, .int .i64 0, .int .i64 0, .int .i64 0, .string ⟨#[]⟩, .int .i64 0, .int .i64 0, .int .i64 0, .int .i64 0, .int .i64 0, .int .i64 0] 46))
          have HB82 := Lib.hid (HBY0.out.alloc HBY0.out.size (.cells #[.string ⟨#[]⟩, .string ⟨#[]⟩, .string ⟨#[]⟩, .string ⟨#[]⟩, .string ⟨#[]⟩, .int .i64 0, .int .i64 0, .int .i64 0, .int .i64 0, .int .i64 0, .int .i64 0, .int .i64 0, .int .i64 0, .int .i64 0, .int .i64 0, .string ⟨#[]⟩, .int .i64 0, .int .i64 0, .int .i64 0, .int .i64 0, .int .i64 0, .int .i64 0] 46))
          have HS82 := Lib.hid HBY0.out.size
          generalize y0.alloc (.cells #[.string ⟨#[]⟩, .string ⟨#[]⟩, .string ⟨#[]⟩, .string ⟨#[]⟩, .string ⟨#[]⟩, .int .i64 0, .int .i64 0, .int .i64 0, .int .i64 0, .int .i64 0, .int .i64 0, .int .i64 0, .int .i64 0, .int .i64 0, .int .i64 0, .string ⟨#[]⟩, .int .i64 0, .int .i64 0, .int .i64 0, .int .i64 0, .int .i64 0, .int .i64 0] 46) = x82 at *
          refine Sg.line1 1 _ (by kernel_rfl) rfl ?_
          go_wp2_with fail
          refine Sg.line1 2 _ (by kernel_rfl) rfl ?_
          go_wp2_with fail
          with_reducible refine (CC.out x82 HB82.out).mono ?_
          rintro e x84 ⟨v84, rfl, ho84, hb84⟩
          have HO84 := Lib.hid (Kit.own_base ho84 HB82.out.size)
          have HB84 := Lib.hid (HB82.out.trans (hb84.mono HB82.out.size))
          have HG84 := Lib.hid ((hb84.block y0.heap.size (Array.getElem?_eq_some_iff.1 HA82.out).1).trans HA82.out)
          clear ho84 hb84
          go_wp2_with fail
          refine Sg.line1 4 _ (by kernel_rfl) rfl ?_
          go_wp2_with fail
          with_reducible refine (CKA.out x84).mono ?_
          rintro e x85 ⟨rfl, hb85⟩
          have HB85 := Lib.hid (HB84.out.trans (hb85.mono HB84.out.size))
          have HO85 := Lib.hid (Kit.own_below HO84.out hb85)
          have HG85 := Lib.hid ((hb85.block y0.heap.size (Array.getElem?_eq_some_iff.1 HG84.out).1).trans HG84.out)
          clear hb85
          go_wp2_with fail
          refine Sg.line1 6 _ (by kernel_rfl) rfl ?_
          go_wp2_with fail
          exact ⟨[_, _, _, _, _, _, _], rfl, _, _, _, _, _, _, rfl, HO85, HG85, HS82, HB85⟩
      · go_wp2_with fail
        have HA87 := Lib.hid (heap_alloc_new y0 (.cells #[.string ⟨#[]⟩, .string ⟨#[]⟩, .string ⟨#[]⟩, .string ⟨#[]⟩, .string ⟨#[]⟩, .int .i64 0, .int .i64 0, .int .i64 0, .int .i64 0, .int .i64 0, .int .i64 0, .int .i64 0, .int .i64 0, .int .i64 0, .int .i64 0, .string ⟨#[]⟩, .int .i64 0, .int .i64 0, .int .i64 0, .int .i64 0, .int .i64 0, .int .i64 0] 46))
        have HB87 := Lib.hid (HBY0.out.alloc HBY0.out.size (.cells #[.string ⟨#[]⟩, .string ⟨#[]⟩, .string ⟨#[]⟩, .string ⟨#[]⟩, .string ⟨#[]⟩, .int .i64 0, .int .i64 0, .int .i64 0, .int .i64 0, .int .i64 0, .int .i64 0, .int .i64 0, .int .i64 0, .int .i64 0, .int .i64 0, .string ⟨#[]⟩, .int .i64 0, .int .i64 0, .int .i64 0, .int .i64 0, .int .i64 0, .int .i64 0] 46))
        have HS87 := Lib.hid HBY0.out.size
        generalize y0.alloc (.cells #[.string ⟨#[]⟩, .string ⟨#[]⟩, .string ⟨#[]⟩, .string ⟨#[]⟩, .string ⟨#[]⟩, .int .i64 0, .int .i64 0, .int .i64 0, .int .i64 0, .int .i64 0, .int .i64 0, .int .i64 0, .int .i64 0, .int .i64 0, .int .i64 0, .string ⟨#[]⟩, .int .i64 0, .int .i64 0, .int .i64 0, .int .i64 0, .int .i64 0, .int .i64 0] 46) = x87 at *
        refine Sg.line1 0 _ (by kernel_rfl) rfl ?_
        go_wp2_with fail
        refine Sg.line1 1 _ (by kernel_rfl) rfl ?_
        go_wp2_with fail
        refine Sg.line1 2 _ (by kernel_rfl) rfl ?_
        go_wp2_with fail
        with_reducible refine (CC.out x87 HB87.out).mono ?_
        rintro e x90 ⟨v90, rfl, ho90, hb90⟩
        have HO90 := Lib.hid (Kit.own_base ho90 HB87.out.size)
        have HB90 := Lib.hid (HB87.out.trans (hb90.mono HB87.out.size))
        have HG90 := Lib.hid ((hb90.block y0.heap.size (Array.getElem?_eq_some_iff.1 HA87.out).1).trans HA87.out)
        clear ho90 hb90
        go_wp2_with fail
        refine Sg.line1 4 _ (by kernel_rfl) rfl ?_
        go_wp2_with fail
        with_reducible refine (CKA.out x90).mono ?_
        rintro e x91 ⟨rfl, hb91⟩
        have HB91 := Lib.hid (HB90.out.trans (hb91.mono HB90.out.size))
        have HO91 := Lib.hid (Kit.own_below HO90.out hb91)
        have HG91 := Lib.hid ((hb91.block y0.heap.size (Array.getElem?_eq_some_iff.1 HG90.out).1).trans HG90.out)
        clear hb91
        go_wp2_with fail
        refine Sg.line1 6 _ (by kernel_rfl) rfl ?_
        go_wp2_with fail
        exact ⟨[_, _, _, _, _, _, _], rfl, _, _, _, _, _, _, rfl, HO91, HG91, HS87, HB91⟩
    · go_wp2_with fail
      have HA93 := Lib.hid (heap_alloc_new y0 (.cells #[.string ⟨#[]⟩, .string ⟨#[]⟩, .string ⟨#[]⟩, .string ⟨#[]⟩, .string ⟨#[]⟩, .int .i64 0, .int .i64 0, .int .i64 0, .int .i64 0, .int .i64 0, .int .i64 0, .int .i64 0, .int .i64 0, .int .i64 0, .int .i64 0, .string ⟨#[]⟩, .int .i64 0, .int .i64 0, .int .i64 0, .int .i64 0, .int .i64 0, .int .i64 0] 46))
      have HB93 := Lib.hid (HBY0.out.alloc HBY0.out.size (.cells #[.string ⟨#[]⟩, .string ⟨#[]⟩, .string ⟨#[]⟩, .string ⟨#[]⟩, .string ⟨#[]⟩, .int .i64 0, .int .i64 0, .int .i64 0, .int .i64 0, .int .i64 0, .int .i64 0, .int .i64 0, .int .i64 0, .int .i64 0, .int .i64 0, .string ⟨#[]⟩, .int .i64 0, .int .i64 0, .int .i64 0, .int .i64 0, .int .i64 0, .int .i64 0] 46))
      have HS93 := Lib.hid HBY0.out.size
      generalize y0.alloc (.cells #[.string ⟨#[]⟩, .string ⟨#[]⟩, .string ⟨#[]⟩, .string ⟨#[]⟩, .string ⟨#[]⟩, .int .i64 0, .int .i64 0, .int .i64 0, .int .i64 0, .int .i64 0, .int .i64 0, .int .i64 0, .int .i64 0, .int .i64 0, .int .i64 0, .string ⟨#[]⟩, .int .i64 0, .int .i64 0, .int .i64 0, .int .i64 0, .int .i64 0, .int .i64 0] 46) = x93 at *
      refine Sg.fork 0 3 _ _ (by kernel_rfl) rfl rfl ?_ ?_
      · go_wp2_with fail
        refine Sg.fork 1 3 _ _ (by kernel_rfl) rfl rfl ?_ ?_
        · go_wp2_with fail
          refine Sg.fork 2 3 _ _ (by kernel_rfl) rfl rfl ?_ ?_
          · go_wp2_with fail
            with_reducible refine (CC.out x93 HB93.out).mono ?_
            rintro e x96 ⟨v96, rfl, ho96, hb96⟩
            have HO96 := Lib.hid (Kit.own_base ho96 HB93.out.size)
            have HB96 := Lib.hid (HB93.out.trans (hb96.mono HB93.out.size))
            have HG96 := Lib.hid ((hb96.block y0.heap.size (Array.getElem?_eq_some_iff.1 HA93.out).1).trans HA93.out)
            clear ho96 hb96
            go_wp2_with fail
            refine Sg.line1 3 _ (by kernel_rfl) rfl ?_
            have HL97 := Lib.hid (Vs.box_load a HZAD.out (HZY.out x96 HB96.out))
            go_wp2_with (refine wpList_load_at 46 _ rfl w.heap.size 0 rfl _ HL97.out (by rfl) ?_)
            refine Sg.line1 4 _ (by kernel_rfl) rfl ?_
            go_wp2_with fail
            with_reducible refine (CKA.out x96).mono ?_
            rintro e x98 ⟨rfl, hb98⟩
            have HB98 := Lib.hid (HB96.out.trans (hb98.mono HB96.out.size))
            have HO98 := Lib.hid (Kit.own_below HO96.out hb98)
            have HG98 := Lib.hid ((hb98.block y0.heap.size (Array.getElem?_eq_some_iff.1 HG96.out).1).trans HG96.out)
            clear hb98
            go_wp2_with fail
            refine Sg.line1 6 _ (by kernel_rfl) rfl ?_
            go_wp2_with fail
            exact ⟨[_, _, _, _, _, _, _], rfl, _, _, _, _, _, _, rfl, HO98, HG98, HS93, HB98⟩
          · have HL100 := Lib.hid (Vs.box_load a HZAD.out (HZY.out x93 HB93.out))
            go_wp2_with (refine wpList_load_at 46 _ rfl w.heap.size 0 rfl _ HL100.out (by rfl) ?_)
            refine Sg.line1 2 _ (by kernel_rfl) rfl ?_
            go_wp2_with fail
            with_reducible refine (CC.out x93 HB93.out).mono ?_
            rintro e x101 ⟨v101, rfl, ho101, hb101⟩
            have HO101 := Lib.hid (Kit.own_base ho101 HB93.out.size)
            have HB101 := Lib.hid (HB93.out.trans (hb101.mono HB93.out.size))
            have HG101 := Lib.hid ((hb101.block y0.heap.size (Array.getElem?_eq_some_iff.1 HA93.out).1).trans HA93.out)
            clear ho101 hb101
            go_wp2_with fail
            refine Sg.line1 4 _ (by kernel_rfl) rfl ?_
            go_wp2_with fail
            with_reducible refine (CKA.out x101).mono ?_
            rintro e x102 ⟨rfl, hb102⟩
            have HB102 := Lib.hid (HB101.out.trans (hb102.mono HB101.out.size))
            have HO102 := Lib.hid (Kit.own_below HO101.out hb102)
            have HG102 := Lib.hid ((hb102.block y0.heap.size (Array.getElem?_eq_some_iff.1 HG101.out).1).trans HG101.out)
            clear hb102
            go_wp2_with fail
            refine Sg.line1 6 _ (by kernel_rfl) rfl ?_
            go_wp2_with fail
            exact ⟨[_, _, _, _, _, _, _], rfl, _, _, _, _, _, _, rfl, HO102, HG102, HS93, HB102⟩
        · have HL104 := Lib.hid (Vs.box_load a HZAD.out (HZY.out x93 HB93.out))
          go_wp2_with (refine wpList_load_at 46 _ rfl w.heap.size 0 rfl _ HL104.out (by rfl) ?_)
          refine Sg.line1 1 _ (by kernel_rfl) rfl ?_
          go_wp2_with fail
          refine Sg.line1 2 _ (by kernel_rfl) rfl ?_
          go_wp2_with fail
          with_reducible refine (CC.out x93 HB93.out).mono ?_
          rintro e x106 ⟨v106, rfl, ho106, hb106⟩
          have HO106 := Lib.hid (Kit.own_base ho106 HB93.out.size)
          have HB106 := Lib.hid (HB93.out.trans (hb106.mono HB93.out.size))
          have HG106 := Lib.hid ((hb106.block y0.heap.size (Array.getElem?_eq_some_iff.1 HA93.out).1).trans HA93.out)
          clear ho106 hb106
          go_wp2_with fail
          refine Sg.line1 4 _ (by kernel_rfl) rfl ?_
          go_wp2_with fail
          with_reducible refine (CKA.out x106).mono ?_
          rintro e x107 ⟨rfl, hb107⟩
          have HB107 := Lib.hid (HB106.out.trans (hb107.mono HB106.out.size))
          have HO107 := Lib.hid (Kit.own_below HO106.out hb107)
          have HG107 := Lib.hid ((hb107.block y0.heap.size (Array.getElem?_eq_some_iff.1 HG106.out).1).trans HG106.out)
          clear hb107
          go_wp2_with fail
          refine Sg.line1 6 _ (by kernel_rfl) rfl ?_
          go_wp2_with fail
          exact ⟨[_, _, _, _, _, _, _], rfl, _, _, _, _, _, _, rfl, HO107, HG107, HS93, HB107⟩
      · have HL109 := Lib.hid (Vs.box_load a HZAD.out (HZY.out x93 HB93.out))
        go_wp2_with (refine wpList_load_at 46 _ rfl w.heap.size 0 rfl _ HL109.out (by rfl) ?_)
        refine Sg.line1 0 _ (by kernel_rfl) rfl ?_
        go_wp2_with fail
        refine Sg.line1 1 _ (by kernel_rfl) rfl ?_
        go_wp2_with fail
        refine Sg.line1 2 _ (by kernel_rfl) rfl ?_
        go_wp2_with fail
        with_reducible refine (CC.out x93 HB93.out).mono ?_
        rintro e x112 ⟨v112, rfl, ho112, hb112⟩
        have HO112 := Lib.hid (Kit.own_base ho112 HB93.out.size)
        have HB112 := Lib.hid (HB93.out.trans (hb112.mono HB93.out.size))
        have HG112 := Lib.hid ((hb112.block y0.heap.size (Array.getElem?_eq_some_iff.1 HA93.out).1).trans HA93.out)
        clear ho112 hb112
        go_wp2_with fail
        refine Sg.line1 4 _ (by kernel_rfl) rfl ?_
        go_wp2_with fail
        with_reducible refine (CKA.out x112).mono ?_
        rintro e x113 ⟨rfl, hb113⟩
        have HB113 := Lib.hid (HB112.out.trans (hb113.mono HB112.out.size))
        have HO113 := Lib.hid (Kit.own_below HO112.out hb113)
        have HG113 := Lib.hid ((hb113.block y0.heap.size (Array.getElem?_eq_some_iff.1 HG112.out).1).trans HG112.out)
        clear hb113
        go_wp2_with fail
        refine Sg.line1 6 _ (by kernel_rfl) rfl ?_
        go_wp2_with fail
        exact ⟨[_, _, _, _, _, _, _], rfl, _, _, _, _, _, _, rfl, HO113, HG113, HS93, HB113⟩
  case refine_1 =>
    rintro vs y1 ⟨v, gb, p1, p2, p3, p4, rfl, HO, HG, HS, HBY⟩
    generalize w5.drew = y0 at *
    simp only [Sg.puts, Act.put, List.setIfInBounds_toArray, List.set_cons_zero, List.set_cons_succ]
    have HBD2 := HKY
    have hst := Vs.run_put (P := Tryz.prog) HG.out KA (by rw [hka22]; rfl) HKA1.out
    refine Sg.run (m := 6) (n := 7) [7] [_] pvA_back pvA_g6 (by decide) pvA_g7 pvA_lt7 rfl (by kernel_rfl) rfl ?_
    go_wp2_with fail
    refine Sg.last pvA_sz ?_
    clear hst
    have hgy : gb < y1.heap.size := (Array.getElem?_eq_some_iff.1 HG.out).1
    have HW2 := Lib.hid (show (y1.setCells gb 0 KA.toList).heap[gb]? = some (.cells KA 46 (0, 0)) from Vs.row_put HG.out (by rw [hka22]; rfl))
    have HO2 := Lib.hid (show (y1.setCells gb 0 KA.toList).ownsRow y0.heap.size 9 1 v 3 (Vs.strs (SL.take 3)) from Vs.own_heap HO.out fun k hk => Vs.heap_put_same _ _ (fun e => Vs.own_far HG.out (by decide) HO.out (by rw [hk, e])))
    have HB2 := Lib.hid (show Below y0.heap.size y0 (y1.setCells gb 0 KA.toList) from Vs.below_put HS.out _ _ _ HBY.out)
    have hs2 : gb < (y1.setCells gb 0 KA.toList).heap.size := (Array.getElem?_eq_some_iff.1 HW2.out).1
    clear HG HO HBY hgy
    go_upto_region 13 with fail
    generalize y1.setCells gb 0 KA.toList = y2 at *
    have HLB := Lib.hid (Vs.box_load b HZBD.out (HZB.out y2 (HKY.out.trans (HB2.out.mono HKY.out.size))))
    go_wp2_with (refine wpList_load_at 46 _ rfl (w.heap.size + 1) 0 rfl _ (HLB.out) (by rfl) ?_)
    with_reducible refine (CKB.out _).mono ?_
    rintro e y3 ⟨rfl, hb3⟩
    have hst := Vs.run_put (P := Tryz.prog) (heap_alloc_new y3 (.cells #[.string ⟨#[]⟩, .string ⟨#[]⟩, .string ⟨#[]⟩, .string ⟨#[]⟩, .string ⟨#[]⟩, .int .i64 0, .int .i64 0, .int .i64 0, .int .i64 0, .int .i64 0, .int .i64 0, .int .i64 0, .int .i64 0, .int .i64 0, .int .i64 0, .string ⟨#[]⟩, .int .i64 0, .int .i64 0, .int .i64 0, .int .i64 0, .int .i64 0, .int .i64 0] 46)) KB (by rw [hkb22]; rfl) HKB1.out
    have hs3 := hb3.size
    have hs0 := HB2.out.size
    have hba := hb3.trans (((Below.refl y3.heap.size y3).alloc (Nat.le_refl _) (.cells #[.string ⟨#[]⟩, .string ⟨#[]⟩, .string ⟨#[]⟩, .string ⟨#[]⟩, .string ⟨#[]⟩, .int .i64 0, .int .i64 0, .int .i64 0, .int .i64 0, .int .i64 0, .int .i64 0, .int .i64 0, .int .i64 0, .int .i64 0, .int .i64 0, .string ⟨#[]⟩, .int .i64 0, .int .i64 0, .int .i64 0, .int .i64 0, .int .i64 0, .int .i64 0] 46)).mono hb3.size)
    have hbp := Vs.below_put (g := y3.heap.size) hb3.size KB.toList 0 _ hba
    have HP := Lib.hid (show Vs.Pv4 y0 ((y3.alloc (.cells #[.string ⟨#[]⟩, .string ⟨#[]⟩, .string ⟨#[]⟩, .string ⟨#[]⟩, .string ⟨#[]⟩, .int .i64 0, .int .i64 0, .int .i64 0, .int .i64 0, .int .i64 0, .int .i64 0, .int .i64 0, .int .i64 0, .int .i64 0, .int .i64 0, .string ⟨#[]⟩, .int .i64 0, .int .i64 0, .int .i64 0, .int .i64 0, .int .i64 0, .int .i64 0] 46)).setCells y3.heap.size 0 KB.toList) gb y3.heap.size (Vs.keptD a) (Vs.keptD b) v (SL.take 3) from
      ⟨by rw [HSL3.out]; rw [HSL3.out] at HO2; exact Kit.own_below HO2.out hbp, by rw [← HKAD.out]; exact (hbp.block gb hs2).trans HW2.out, by rw [← HKBD.out]; exact Vs.row_put (heap_alloc_new y3 (.cells #[.string ⟨#[]⟩, .string ⟨#[]⟩, .string ⟨#[]⟩, .string ⟨#[]⟩, .string ⟨#[]⟩, .int .i64 0, .int .i64 0, .int .i64 0, .int .i64 0, .int .i64 0, .int .i64 0, .int .i64 0, .int .i64 0, .int .i64 0, .int .i64 0, .string ⟨#[]⟩, .int .i64 0, .int .i64 0, .int .i64 0, .int .i64 0, .int .i64 0, .int .i64 0] 46)) (by rw [hkb22]; rfl), HB2.out.trans (hbp.mono HB2.out.size), HS.out, by omega⟩)
    clear hba hbp hb3 HLB HO2 HW2
    go_upto_region 14 with fail
    clear hst
    generalize (y3.alloc (.cells #[.string ⟨#[]⟩, .string ⟨#[]⟩, .string ⟨#[]⟩, .string ⟨#[]⟩, .string ⟨#[]⟩, .int .i64 0, .int .i64 0, .int .i64 0, .int .i64 0, .int .i64 0, .int .i64 0, .int .i64 0, .int .i64 0, .int .i64 0, .int .i64 0, .string ⟨#[]⟩, .int .i64 0, .int .i64 0, .int .i64 0, .int .i64 0, .int .i64 0, .int .i64 0] 46)).setCells y3.heap.size 0 KB.toList = y4 at *
    generalize y3.heap.size = ge at *
    have HZN4 := Lib.hid (show ∀ W, Below y0.heap.size y0 W → W.heap[w.heap.size + 2]? = some (.cells #[.int .u8 (n0 : Int), .int .u8 (n1 : Int), .int .u8 (n2 : Int)] 57 (0, 0)) from fun W h => HZN.out W (HKY.out.trans (h.mono HKY.out.size)))
    have q0 := cell_of_row _ _ 0 _ _ _ (HZN4.out y4 HP.out.bel)
    have q1 := cell_of_row _ _ 1 _ _ _ (HZN4.out y4 HP.out.bel)
    have q2 := cell_of_row _ _ 2 _ _ _ (HZN4.out y4 HP.out.bel)
    simp only [List.getElem?_toArray, List.getElem?_cons_zero, List.getElem?_cons_succ] at q0 q1 q2
    go_wp2_with fail
    clear q0 q1 q2
    have HSIX2 := Lib.hid (HSIX.out (n0 % 6) (n1 % 6) (n2 % 6))
    have HPV2 := Lib.hid (HPV.out (n0 % 6) (n1 % 6) (n2 % 6) (by omega) (by omega) (by omega))
    have HNA := Lib.hid (HNU0.out (n0 % 6) (by omega))
    have HNB := Lib.hid (HNU1.out (n1 % 6) (by omega))
    have HNC := Lib.hid (HNU2.out (n2 % 6) (by omega))
    have hm0 : (n0 : Int) % 6 = ((n0 % 6 : Nat) : Int) := by omega
    have hm1 : (n1 : Int) % 6 = ((n1 % 6 : Nat) : Int) := by omega
    have hm2 : (n2 : Int) % 6 = ((n2 % 6 : Nat) : Int) := by omega
    have HM0 := Lib.hid hm0
    have HM1 := Lib.hid hm1
    have HM2 := Lib.hid hm2
    have HMM := Lib.hid (show n0 % 6 < 6 ∧ n1 % 6 < 6 ∧ n2 % 6 < 6 by omega)
    have HI0 := Lib.hid (Vs.want_mix a b (n0 % 6) (n1 % 6) (n2 % 6))
    have HWD := Lib.hid (fun i => show Vs.wantD (Vs.keptD b) (Vs.keptD a) (n0 % 6) (n1 % 6) (n2 % 6) i = if i = 0 then Vs.keptD a else if i = 1 then Vs.want1 (Vs.keptD b) (Vs.keptD a) (n0 % 6) else if i = 2 then Vs.want2 (Vs.keptD b) (Vs.keptD a) (n0 % 6) (n1 % 6) else Vs.want3 (Vs.keptD b) (Vs.keptD a) (n0 % 6) (n1 % 6) (n2 % 6) from rfl)
    have HP0 := Lib.hid (show Vs.Pv4 y0 y4 gb ge (Vs.wantD (Vs.keptD b) (Vs.keptD a) (n0 % 6) (n1 % 6) (n2 % 6) 0) (Vs.keptD b) v ((Vs.six a b N (n0 % 6) (n1 % 6) (n2 % 6)).take 3) by
      rw [HSIX2.out, HWD.out]
      have h := HP.out
      rw [HSL3.out] at h
      exact h)
    obtain ⟨KD, hKD⟩ : ∃ KD, KD = Vs.keptD b := ⟨_, rfl⟩
    rw [← hKD] at HP0 HWD HI0
    clear HP HSL3 HSIX HPV HNU0 HNU1 HNU2 hm0 hm1 hm2 HZN4 HZN HZA HZB HS HB2 hs2 hs3 hs0 hza hzb hka22 hkb22 hlb hlen hlen2 hn0 hn1 hn2 CKA CKB CC0 HKA1 HKB1 HKAD HKBD HZAD HZBD
    generalize hq0 : n0 % 6 = k0 at *
    generalize hq1 : n1 % 6 = k1 at *
    generalize hq2 : n2 % 6 = k2 at *
    clear hq0 hq1 hq2
    have i0 : ∀ W : World, (Instr.index 57 (.agg #[.int .u8 (n0 : Int), .int .u8 (n1 : Int), .int .u8 (n2 : Int)]) (.int .i64 0)).run Tryz.prog W = .ok (.int .u8 (n0 : Int)) W := fun _ => by kernel_rfl
    have i1 : ∀ W : World, (Instr.index 57 (.agg #[.int .u8 (n0 : Int), .int .u8 (n1 : Int), .int .u8 (n2 : Int)]) (.int .i64 1)).run Tryz.prog W = .ok (.int .u8 (n1 : Int)) W := fun _ => by kernel_rfl
    have i2 : ∀ W : World, (Instr.index 57 (.agg #[.int .u8 (n0 : Int), .int .u8 (n1 : Int), .int .u8 (n2 : Int)]) (.int .i64 2)).run Tryz.prog W = .ok (.int .u8 (n2 : Int)) W := fun _ => by kernel_rfl
    have CN0 := HNA
    rw [show ((N + 3 : Nat) : Int) = (N : Int) + 3 from by omega] at CN0
    have CN1 := HNB
    rw [show ((N + 4 : Nat) : Int) = (N : Int) + 3 + 1 from by omega, show ((N + 1 : Nat) : Int) = (N : Int) + 1 from by omega] at CN1
    have CN2 := HNC
    rw [show ((N + 5 : Nat) : Int) = (N : Int) + 3 + 2 from by omega, show ((N + 2 : Nat) : Int) = (N : Int) + 2 from by omega] at CN2
    have HKD := Lib.hid hKD
    clear HNA HNB HNC hKD
    obtain ⟨⟨b0, b1, b2, b3, b4, b5, b6, b7⟩, ⟨b8, b9, b10, b11, b12, b13⟩, b14, b15, b16, b17, b18, b19, b20, b21⟩ := KD
    go_loopw [14, 70] (fun ov iv wr => ∃ (i : Nat) (d : Vs.D) (l : List ByteArray), i ≤ 3 ∧ iv = .int .i64 i ∧ Hid (d = Vs.wantD ⟨⟨b0, b1, b2, b3, b4, b5, b6, b7⟩, ⟨b8, b9, b10, b11, b12, b13⟩, b14, b15, b16, b17, b18, b19, b20, b21⟩ (Vs.keptD a) k0 k1 k2 i) ∧ Hid (l = (Vs.six a b N k0 k1 k2).take (3 + i)) ∧ Hid (Vs.Pv4 y0 wr gb ge d ⟨⟨b0, b1, b2, b3, b4, b5, b6, b7⟩, ⟨b8, b9, b10, b11, b12, b13⟩, b14, b15, b16, b17, b18, b19, b20, b21⟩ ov l)) (fun _ iv _ => 3 - (intOf iv).toNat)
    case atStart => exact ⟨0, _, _, by omega, rfl, Lib.hid rfl, Lib.hid rfl, HP0⟩
    case round =>
      clear HP0
      obtain ⟨i, d, l, hi, rfl, HD, HL, HP⟩ := hrel
      rcases (show i = 0 ∨ i = 1 ∨ i = 2 ∨ i = 3 by omega) with rfl | rfl | rfl | rfl
      · rw [show ((0 : Nat) : Int) = 0 from rfl]
        have cm := HCMY.out wr HP.out.bel 0 (by decide)
        rw [HSM0.out] at cm
        have hll : l.length ≤ 8 := by rw [HL.out, List.length_take]; omega
        have HL2 := Lib.hid (show l ++ [bs (Vs.blk 1 1 (N + 3) (Pm.le 4 k0 ++ (Vs.primL b.vol).drop 4))] = (Vs.six a b N k0 k1 k2).take (3 + 1) by rw [HL.out, HSIX2.out]; rfl)
        have HDN := Lib.hid (fun (h : ¬ 1 < k0) => show d = Vs.wantD ⟨⟨b0, b1, b2, b3, b4, b5, b6, b7⟩, ⟨b8, b9, b10, b11, b12, b13⟩, b14, b15, b16, b17, b18, b19, b20, b21⟩ (Vs.keptD a) k0 k1 k2 1 by
          rw [HD.out, Vs.wantD_0, Vs.wantD_1]
          exact (if_neg h).symm)
        have HDY := Lib.hid (fun (h : 1 < k0) => show Vs.wA ⟨⟨b0, b1, b2, b3, b4, b5, b6, b7⟩, ⟨b8, b9, b10, b11, b12, b13⟩, b14, b15, b16, b17, b18, b19, b20, b21⟩ d = Vs.wantD ⟨⟨b0, b1, b2, b3, b4, b5, b6, b7⟩, ⟨b8, b9, b10, b11, b12, b13⟩, b14, b15, b16, b17, b18, b19, b20, b21⟩ (Vs.keptD a) k0 k1 k2 1 by
          rw [HD.out, Vs.wantD_0, Vs.wantD_1]
          exact (if_pos h).symm)
        have HN := CN0
        have hmm := HM0.out
        clear HD HL CN0 CN1 CN2 HM0 HM1 HM2 HSM0 HSM1 HSM2 HWD HSIX2 HCMY
        generalize bs (Vs.blk 1 1 (N + 3) (Pm.le 4 k0 ++ (Vs.primL b.vol).drop 4)) = S at *
        generalize bs (Vs.blk 1 1 N (Vs.primL b.vol)) = B at *
        go_wp2_with fail
        with_reducible refine (HN.out _).mono ?_
        rintro e w6 ⟨rfl, hb6⟩
        have HP6 := Lib.hid (HP.out.below hb6)
        clear cm hb6 HN
        by_cases hk : 1 < k0
        · have HDY2 := Lib.hid (HDY.out hk)
          have le1 : decide ((k0 : Int) ≤ 1) = false := decide_eq_false (by omega)
          have le2 : ¬ (k0 : Int) ≤ 1 := by omega
          clear HDY HDN hk
          go_wp2_with (at_builtin; refine HP6.out.app hll S rfl _ _ rfl rfl rfl ?_)
          intro v' w7 hp7
          have HP7 := Lib.hid hp7
          clear hp7 HP HP6 hll
          obtain ⟨⟨c0, c1, c2, c3, c4, c5, c6, c7⟩, ⟨c8, c9, c10, c11, c12, c13⟩, c14, c15, c16, c17, c18, c19, c20, c21⟩ := d
          have hw := HP7.out.want
          have ho := HP7.out.other
          unfold Vs.dC at hw ho
          simp only [] at hw ho
          have HW := Lib.hid hw
          have HO := Lib.hid ho
          have Hlo := Lib.hid HP7.out.lo
          have HLV := Lib.hid (show (loadVar 38 ⟨ge, 0, none⟩).run Tryz.prog w7 = .ok (.agg #[.string b0, .string b1, .string b2, .string b3, .string b4, .int .i64 b5, .int .i64 b6, .int .i64 b7]) w7 from load_row (P := Tryz.prog) (n := 8) 38 _ HO.out Tryz.underlying38 rfl (by kernel_rfl) (show 0 + 8 ≤ 22 by decide))
          clear hw ho
          have z0' := cell_of_row _ _ 0 _ _ _ HW.out
          have z1' := cell_of_row _ _ 1 _ _ _ HW.out
          have z2' := cell_of_row _ _ 2 _ _ _ HW.out
          have z3' := cell_of_row _ _ 3 _ _ _ HW.out
          have z4' := cell_of_row _ _ 4 _ _ _ HW.out
          have z5' := cell_of_row _ _ 5 _ _ _ HW.out
          have z6' := cell_of_row _ _ 6 _ _ _ HW.out
          have z7' := cell_of_row _ _ 7 _ _ _ HW.out
          simp only [List.getElem?_toArray, List.getElem?_cons_zero, List.getElem?_cons_succ] at z0' z1' z2' z3' z4' z5' z6' z7'
          have hfj := fun j => frozen_of_row _ _ j _ _ HW.out
          go_upto_region 26 with fail
          go_upto_region 27 with (refine wpList_load_at 38 _ rfl ge 0 rfl _ HLV.out (by rfl) ?_)
          have HROW := Lib.hid (show (Vs.putAll w7 gb [(0, .string b0), (1, .string b1), (2, .string b2), (3, .string b3), (4, .string b4), (5, .int .i64 b5), (6, .int .i64 b6), (7, .int .i64 b7)]).heap[gb]? = some (.cells (Vs.dC ⟨⟨b0, b1, b2, b3, b4, b5, b6, b7⟩, ⟨c8, c9, c10, c11, c12, c13⟩, c14, c15, c16, c17, c18, c19, c20, c21⟩) 46 (0, 0)) from by
            have h := Vs.putAll_same [(0, .string b0), (1, .string b1), (2, .string b2), (3, .string b3), (4, .string b4), (5, .int .i64 b5), (6, .int .i64 b6), (7, .int .i64 b7)] HW.out
            simp only [Vs.setAll, List.foldl_cons, List.foldl_nil, List.setIfInBounds_toArray, List.set_cons_zero, List.set_cons_succ] at h
            exact h)
          have HPX := Lib.hid (HP7.out.put HROW.out (fun k hk => Vs.putAll_other hk _ _) (Vs.putAll_below Hlo.out _ HP7.out.bel))
          simp only [Vs.putAll, List.foldl_cons, List.foldl_nil] at HPX
          clear HROW HW HO HP7 z0' z1' z2' z3' z4' z5' z6' z7' hfj HLV
          generalize ((((((((w7.setCell ⟨gb, 0, none⟩ (.string b0)).setCell ⟨gb, 1, none⟩ (.string b1)).setCell ⟨gb, 2, none⟩ (.string b2)).setCell ⟨gb, 3, none⟩ (.string b3)).setCell ⟨gb, 4, none⟩ (.string b4)).setCell ⟨gb, 5, none⟩ (.int .i64 b5)).setCell ⟨gb, 6, none⟩ (.int .i64 b6)).setCell ⟨gb, 7, none⟩ (.int .i64 b7)) = x7 at *
          have hw := HPX.out.want
          unfold Vs.dC at hw
          simp only [] at hw
          have HW := Lib.hid hw
          clear hw
          have z0' := cell_of_row _ _ 0 _ _ _ HW.out
          simp only [List.getElem?_toArray, List.getElem?_cons_zero] at z0'
          have hfj := fun j => frozen_of_row _ _ j _ _ HW.out
          have HROW := Lib.hid (show (x7.setCell ⟨gb, 0, none⟩ (.string c0)).heap[gb]? = some (.cells (Vs.dC (Vs.wA ⟨⟨b0, b1, b2, b3, b4, b5, b6, b7⟩, ⟨b8, b9, b10, b11, b12, b13⟩, b14, b15, b16, b17, b18, b19, b20, b21⟩ ⟨⟨c0, c1, c2, c3, c4, c5, c6, c7⟩, ⟨c8, c9, c10, c11, c12, c13⟩, c14, c15, c16, c17, c18, c19, c20, c21⟩)) 46 (0, 0)) from by
            have h := heap_setCell_same _ _ 0 _ _ (.string c0) HW.out
            simp only [List.setIfInBounds_toArray, List.set_cons_zero] at h
            exact h)
          have HPN := Lib.hid (HPX.out.put HROW.out (fun k hk => heap_setCell_other _ _ _ _ (by simpa using hk)) (HPX.out.bel.setCell (p := ⟨gb, 0, none⟩) Hlo.out _))
          clear HROW HW HPX
          go_wp2_with fail
          go_roundw
          case rel => exact ⟨1, _, _, by omega, by go_num, Lib.hid HDY2.out, HL2, HPN⟩
          case measure => simp [intOf]
        · have HDN2 := Lib.hid (HDN.out hk)
          have le1 : decide ((k0 : Int) ≤ 1) = true := decide_eq_true (by omega)
          have le2 : (k0 : Int) ≤ 1 := by omega
          clear HDY HDN hk
          go_wp2_with (at_builtin; refine HP6.out.app hll S rfl _ _ rfl rfl rfl ?_)
          intro v' w7 hp7
          have HP7 := Lib.hid hp7
          clear hp7 HP HP6 hll
          go_wp2_with fail
          go_roundw
          case rel => exact ⟨1, d, _, by omega, by go_num, HDN2, HL2, HP7⟩
          case measure => simp [intOf]
      · rw [show ((1 : Nat) : Int) = 1 from rfl]
        have cm := HCMY.out wr HP.out.bel 1 (by decide)
        rw [HSM1.out] at cm
        have hll : l.length ≤ 8 := by rw [HL.out, List.length_take]; omega
        have HL2 := Lib.hid (show l ++ [bs (Vs.blk 5 1 (N + 4) (Pm.le 4 k1 ++ (Vs.partL b.part).drop 4))] = (Vs.six a b N k0 k1 k2).take (3 + 2) by rw [HL.out, HSIX2.out]; rfl)
        have HDN := Lib.hid (fun (h : ¬ 2 < k1) => show d = Vs.wantD ⟨⟨b0, b1, b2, b3, b4, b5, b6, b7⟩, ⟨b8, b9, b10, b11, b12, b13⟩, b14, b15, b16, b17, b18, b19, b20, b21⟩ (Vs.keptD a) k0 k1 k2 2 by
          rw [HD.out, Vs.wantD_1, Vs.wantD_2]
          exact (if_neg h).symm)
        have HDY := Lib.hid (fun (h : 2 < k1) => show Vs.wB ⟨⟨b0, b1, b2, b3, b4, b5, b6, b7⟩, ⟨b8, b9, b10, b11, b12, b13⟩, b14, b15, b16, b17, b18, b19, b20, b21⟩ d = Vs.wantD ⟨⟨b0, b1, b2, b3, b4, b5, b6, b7⟩, ⟨b8, b9, b10, b11, b12, b13⟩, b14, b15, b16, b17, b18, b19, b20, b21⟩ (Vs.keptD a) k0 k1 k2 2 by
          rw [HD.out, Vs.wantD_1, Vs.wantD_2]
          exact (if_pos h).symm)
        have HN := CN1
        have hmm := HM1.out
        clear HD HL CN0 CN1 CN2 HM0 HM1 HM2 HSM0 HSM1 HSM2 HWD HSIX2 HCMY
        generalize bs (Vs.blk 5 1 (N + 4) (Pm.le 4 k1 ++ (Vs.partL b.part).drop 4)) = S at *
        generalize bs (Vs.blk 5 1 (N + 1) (Vs.partL b.part)) = B at *
        go_wp2_with fail
        with_reducible refine (HN.out _).mono ?_
        rintro e w6 ⟨rfl, hb6⟩
        have HP6 := Lib.hid (HP.out.below hb6)
        clear cm hb6 HN
        by_cases hk : 2 < k1
        · have HDY2 := Lib.hid (HDY.out hk)
          have le1 : decide ((k1 : Int) ≤ 2) = false := decide_eq_false (by omega)
          have le2 : ¬ (k1 : Int) ≤ 2 := by omega
          clear HDY HDN hk
          go_wp2_with (at_builtin; refine HP6.out.app hll S rfl _ _ rfl rfl rfl ?_)
          intro v' w7 hp7
          have HP7 := Lib.hid hp7
          clear hp7 HP HP6 hll
          obtain ⟨⟨c0, c1, c2, c3, c4, c5, c6, c7⟩, ⟨c8, c9, c10, c11, c12, c13⟩, c14, c15, c16, c17, c18, c19, c20, c21⟩ := d
          have hw := HP7.out.want
          have ho := HP7.out.other
          unfold Vs.dC at hw ho
          simp only [] at hw ho
          have HW := Lib.hid hw
          have HO := Lib.hid ho
          have Hlo := Lib.hid HP7.out.lo
          have HLV := Lib.hid (show (loadVar 40 ⟨ge, 8, none⟩).run Tryz.prog w7 = .ok (.agg #[.int .i64 b8, .int .i64 b9, .int .i64 b10, .int .i64 b11, .int .i64 b12, .int .i64 b13]) w7 from load_row (P := Tryz.prog) (n := 6) 40 _ HO.out Tryz.underlying40 rfl (by kernel_rfl) (show 8 + 6 ≤ 22 by decide))
          clear hw ho
          have z8' := cell_of_row _ _ 8 _ _ _ HW.out
          have z9' := cell_of_row _ _ 9 _ _ _ HW.out
          have z10' := cell_of_row _ _ 10 _ _ _ HW.out
          have z11' := cell_of_row _ _ 11 _ _ _ HW.out
          have z12' := cell_of_row _ _ 12 _ _ _ HW.out
          have z13' := cell_of_row _ _ 13 _ _ _ HW.out
          simp only [List.getElem?_toArray, List.getElem?_cons_zero, List.getElem?_cons_succ] at z8' z9' z10' z11' z12' z13'
          have hfj := fun j => frozen_of_row _ _ j _ _ HW.out
          have HROW := Lib.hid (show (Vs.putAll w7 gb [(8, .int .i64 b8), (9, .int .i64 b9), (10, .int .i64 b10), (11, .int .i64 b11), (12, .int .i64 b12), (13, .int .i64 b13)]).heap[gb]? = some (.cells (Vs.dC (Vs.wB ⟨⟨b0, b1, b2, b3, b4, b5, b6, b7⟩, ⟨b8, b9, b10, b11, b12, b13⟩, b14, b15, b16, b17, b18, b19, b20, b21⟩ ⟨⟨c0, c1, c2, c3, c4, c5, c6, c7⟩, ⟨c8, c9, c10, c11, c12, c13⟩, c14, c15, c16, c17, c18, c19, c20, c21⟩)) 46 (0, 0)) from by
            have h := Vs.putAll_same [(8, .int .i64 b8), (9, .int .i64 b9), (10, .int .i64 b10), (11, .int .i64 b11), (12, .int .i64 b12), (13, .int .i64 b13)] HW.out
            simp only [Vs.setAll, List.foldl_cons, List.foldl_nil, List.setIfInBounds_toArray, List.set_cons_zero, List.set_cons_succ] at h
            exact h)
          have HPN := Lib.hid (HP7.out.put HROW.out (fun k hk => Vs.putAll_other hk _ _) (Vs.putAll_below Hlo.out _ HP7.out.bel))
          simp only [Vs.putAll, List.foldl_cons, List.foldl_nil] at HPN
          clear HROW HO HP7
          go_upto_region 29 with fail
          go_upto_region 30 with (refine wpList_load_at 40 _ rfl ge 8 rfl _ HLV.out (by rfl) ?_)
          clear HW z8' z9' z10' z11' z12' z13' hfj HLV
          go_wp2_with fail
          go_roundw
          case rel => exact ⟨2, _, _, by omega, by go_num, Lib.hid HDY2.out, HL2, HPN⟩
          case measure => simp [intOf]
        · have HDN2 := Lib.hid (HDN.out hk)
          have le1 : decide ((k1 : Int) ≤ 2) = true := decide_eq_true (by omega)
          have le2 : (k1 : Int) ≤ 2 := by omega
          clear HDY HDN hk
          go_wp2_with (at_builtin; refine HP6.out.app hll S rfl _ _ rfl rfl rfl ?_)
          intro v' w7 hp7
          have HP7 := Lib.hid hp7
          clear hp7 HP HP6 hll
          go_wp2_with fail
          go_roundw
          case rel => exact ⟨2, d, _, by omega, by go_num, HDN2, HL2, HP7⟩
          case measure => simp [intOf]
      · rw [show ((2 : Nat) : Int) = 2 from rfl]
        have cm := HCMY.out wr HP.out.bel 2 (by decide)
        rw [HSM2.out] at cm
        have hll : l.length ≤ 8 := by rw [HL.out, List.length_take]; omega
        have HL2 := Lib.hid (show l ++ [bs (Vs.blk 6 1 (N + 5) (Pm.le 4 k2 ++ (Vs.logL b).drop 4))] = (Vs.six a b N k0 k1 k2).take (3 + 3) by rw [HL.out, HSIX2.out]; rfl)
        have HDN := Lib.hid (fun (h : ¬ 3 < k2) => show d = Vs.wantD ⟨⟨b0, b1, b2, b3, b4, b5, b6, b7⟩, ⟨b8, b9, b10, b11, b12, b13⟩, b14, b15, b16, b17, b18, b19, b20, b21⟩ (Vs.keptD a) k0 k1 k2 3 by
          rw [HD.out, Vs.wantD_2, Vs.wantD_3]
          exact (if_neg h).symm)
        have HDY := Lib.hid (fun (h : 3 < k2) => show Vs.wC ⟨⟨b0, b1, b2, b3, b4, b5, b6, b7⟩, ⟨b8, b9, b10, b11, b12, b13⟩, b14, b15, b16, b17, b18, b19, b20, b21⟩ d = Vs.wantD ⟨⟨b0, b1, b2, b3, b4, b5, b6, b7⟩, ⟨b8, b9, b10, b11, b12, b13⟩, b14, b15, b16, b17, b18, b19, b20, b21⟩ (Vs.keptD a) k0 k1 k2 3 by
          rw [HD.out, Vs.wantD_2, Vs.wantD_3]
          exact (if_pos h).symm)
        have HN := CN2
        have hmm := HM2.out
        clear HD HL CN0 CN1 CN2 HM0 HM1 HM2 HSM0 HSM1 HSM2 HWD HSIX2 HCMY
        generalize bs (Vs.blk 6 1 (N + 5) (Pm.le 4 k2 ++ (Vs.logL b).drop 4)) = S at *
        generalize bs (Vs.blk 6 1 (N + 2) (Vs.logL b)) = B at *
        go_wp2_with fail
        with_reducible refine (HN.out _).mono ?_
        rintro e w6 ⟨rfl, hb6⟩
        have HP6 := Lib.hid (HP.out.below hb6)
        clear cm hb6 HN
        by_cases hk : 3 < k2
        · have HDY2 := Lib.hid (HDY.out hk)
          have le1 : decide ((k2 : Int) ≤ 3) = false := decide_eq_false (by omega)
          have le2 : ¬ (k2 : Int) ≤ 3 := by omega
          clear HDY HDN hk
          go_wp2_with (at_builtin; refine HP6.out.app hll S rfl _ _ rfl rfl rfl ?_)
          intro v' w7 hp7
          have HP7 := Lib.hid hp7
          clear hp7 HP HP6 hll
          obtain ⟨⟨c0, c1, c2, c3, c4, c5, c6, c7⟩, ⟨c8, c9, c10, c11, c12, c13⟩, c14, c15, c16, c17, c18, c19, c20, c21⟩ := d
          have hw := HP7.out.want
          have ho := HP7.out.other
          unfold Vs.dC at hw ho
          simp only [] at hw ho
          have HW := Lib.hid hw
          have HO := Lib.hid ho
          have Hlo := Lib.hid HP7.out.lo
          have hne := HP7.out.ne
          have hne2 := Ne.symm hne
          clear hw ho
          have z0' := cell_of_row _ _ 0 _ _ _ HW.out
          have z14' := cell_of_row _ _ 14 _ _ _ HW.out
          have z15' := cell_of_row _ _ 15 _ _ _ HW.out
          have z16' := cell_of_row _ _ 16 _ _ _ HW.out
          have z17' := cell_of_row _ _ 17 _ _ _ HW.out
          have z18' := cell_of_row _ _ 18 _ _ _ HW.out
          have z19' := cell_of_row _ _ 19 _ _ _ HW.out
          have z20' := cell_of_row _ _ 20 _ _ _ HW.out
          have z21' := cell_of_row _ _ 21 _ _ _ HW.out
          simp only [List.getElem?_toArray, List.getElem?_cons_zero, List.getElem?_cons_succ] at z0' z14' z15' z16' z17' z18' z19' z20' z21'
          have e0' := cell_of_row _ _ 0 _ _ _ HO.out
          have e14' := cell_of_row _ _ 14 _ _ _ HO.out
          have e15' := cell_of_row _ _ 15 _ _ _ HO.out
          have e16' := cell_of_row _ _ 16 _ _ _ HO.out
          have e17' := cell_of_row _ _ 17 _ _ _ HO.out
          have e18' := cell_of_row _ _ 18 _ _ _ HO.out
          have e19' := cell_of_row _ _ 19 _ _ _ HO.out
          have e20' := cell_of_row _ _ 20 _ _ _ HO.out
          have e21' := cell_of_row _ _ 21 _ _ _ HO.out
          simp only [List.getElem?_toArray, List.getElem?_cons_zero, List.getElem?_cons_succ] at e0' e14' e15' e16' e17' e18' e19' e20' e21'
          have hfj := fun j => frozen_of_row _ _ j _ _ HW.out
          go_upto_region 23 with fail
          clear i0 i1 i2 hmm le1 le2
          go_region_held3 (fun w' => w'.cell? ⟨ge, 0, none⟩ = some (.string b0) ∧ w'.cell? ⟨ge, 14, none⟩ = some (.int .i64 b14) ∧ w'.cell? ⟨ge, 15, none⟩ = some (.string b15) ∧ w'.cell? ⟨ge, 16, none⟩ = some (.int .i64 b16) ∧ w'.cell? ⟨ge, 17, none⟩ = some (.int .i64 b17) ∧ w'.cell? ⟨ge, 18, none⟩ = some (.int .i64 b18) ∧ w'.cell? ⟨ge, 19, none⟩ = some (.int .i64 b19) ∧ w'.cell? ⟨ge, 20, none⟩ = some (.int .i64 b20) ∧ w'.cell? ⟨ge, 21, none⟩ = some (.int .i64 b21)) (go_keep) (fail)
          have HROW := Lib.hid (show (Vs.putAll w7 gb [(0, .string b0), (14, .int .i64 b14), (15, .string b15), (16, .int .i64 b16), (17, .int .i64 b17), (18, .int .i64 b18), (19, .int .i64 b19), (20, .int .i64 b20), (21, .int .i64 b21)]).drew.heap[gb]? = some (.cells (Vs.dC (Vs.wC ⟨⟨b0, b1, b2, b3, b4, b5, b6, b7⟩, ⟨b8, b9, b10, b11, b12, b13⟩, b14, b15, b16, b17, b18, b19, b20, b21⟩ ⟨⟨c0, c1, c2, c3, c4, c5, c6, c7⟩, ⟨c8, c9, c10, c11, c12, c13⟩, c14, c15, c16, c17, c18, c19, c20, c21⟩)) 46 (0, 0)) from by
            have h := Vs.putAll_same [(0, .string b0), (14, .int .i64 b14), (15, .string b15), (16, .int .i64 b16), (17, .int .i64 b17), (18, .int .i64 b18), (19, .int .i64 b19), (20, .int .i64 b20), (21, .int .i64 b21)] HW.out
            simp only [Vs.setAll, List.foldl_cons, List.foldl_nil, List.setIfInBounds_toArray, List.set_cons_zero, List.set_cons_succ] at h
            exact (Vs.drew_heap _ _).trans h)
          have HPN := Lib.hid (HP7.out.put HROW.out (fun k hk => (Vs.drew_heap _ _).trans (Vs.putAll_other hk _ _)) (Vs.putAll_below Hlo.out _ HP7.out.bel).drew)
          simp only [Vs.putAll, List.foldl_cons, List.foldl_nil] at HPN
          clear HROW HW HO HP7 e0' e14' e15' e16' e17' e18' e19' e20' e21' z0' z14' z15' z16' z17' z18' z19' z20' z21' hfj hne hne2
          go_wp2_with fail
          go_roundw
          case rel => exact ⟨3, _, _, by omega, by go_num, Lib.hid HDY2.out, HL2, HPN⟩
          case measure => simp [intOf]
        · have HDN2 := Lib.hid (HDN.out hk)
          have le1 : decide ((k2 : Int) ≤ 3) = true := decide_eq_true (by omega)
          have le2 : (k2 : Int) ≤ 3 := by omega
          clear HDY HDN hk
          go_wp2_with (at_builtin; refine HP6.out.app hll S rfl _ _ rfl rfl rfl ?_)
          intro v' w7 hp7
          have HP7 := Lib.hid hp7
          clear hp7 HP HP6 hll
          go_wp2_with fail
          go_roundw
          case rel => exact ⟨3, d, _, by omega, by go_num, HDN2, HL2, HP7⟩
          case measure => simp [intOf]
      · rw [show ((3 : Nat) : Int) = 3 from rfl]
        have hl6 : l = Vs.six a b N k0 k1 k2 := by rw [HL.out, HSIX2.out]; rfl
        have hdx := HD.out
        rw [Vs.wantD_3, HI0.out] at hdx
        have CP := Lib.hid (fun v W h1 h2 h3 => pseq_any v (Vs.six a b N k0 k1 k2) (N : Int) W m h1 h2 h3 (fun j _ => HSZ6.out k0 k1 k2 j))
        rw [HPV2.out, ← hdx] at CP
        simp only [] at CP
        obtain ⟨K, hK⟩ : ∃ K, K = Vs.dC d := ⟨_, rfl⟩
        have HKD2 := Lib.hid hK
        have hk22 : K.size = 22 := by rw [hK]; rfl
        have HK1 := Lib.hid (show K.all (·.oneCell') = true by rw [hK]; exact Vs.dC_one _)
        have HEQ := Lib.hid (show ∀ W : World, (Op.equalIn 10000 46 (.agg K) (.agg K)).run Tryz.prog W = .ok true W from fun W => by rw [hK]; exact eqIn_refl _ W)
        have HRO := Lib.hid (Kit.Row.of_own HP.out.own)
        rw [hl6] at HRO
        have HWR := Lib.hid (show wr.heap[gb]? = some (.cells K 46 (0, 0)) by rw [hK]; exact HP.out.want)
        have HBE := Lib.hid (HKY.out.trans (HP.out.bel.mono HKY.out.size))
        rw [← hK] at CP
        clear HD HL hl6 hdx hK HI0 HPV2 HWD HM0 HM1 HM2 HSM0 HSM1 HSM2 HSIX2 HCMY CN0 CN1 CN2 i0 i1 i2 HP HMM HKD HSZ6
        generalize Vs.six a b N k0 k1 k2 = L6 at *
        go_wp2_with fail
        with_reducible refine (CP.out _ wr HRO.out (HTW.out _ HBE.out) (HMW.out _ HBE.out)).mono ?_
        rintro e w4 ⟨rfl, hb4⟩
        have hs4 := hb4.size
        have hba := hb4.trans (((Below.refl w4.heap.size w4).alloc (Nat.le_refl _) (.cells #[.string ⟨#[]⟩, .string ⟨#[]⟩, .string ⟨#[]⟩, .string ⟨#[]⟩, .string ⟨#[]⟩, .int .i64 0, .int .i64 0, .int .i64 0, .int .i64 0, .int .i64 0, .int .i64 0, .int .i64 0, .int .i64 0, .int .i64 0, .int .i64 0, .string ⟨#[]⟩, .int .i64 0, .int .i64 0, .int .i64 0, .int .i64 0, .int .i64 0, .int .i64 0] 46)).mono hb4.size)
        have hbp := Vs.below_put (g := w4.heap.size) hb4.size K.toList 0 _ hba
        have hst := Vs.run_put (P := Tryz.prog) (heap_alloc_new w4 (.cells #[.string ⟨#[]⟩, .string ⟨#[]⟩, .string ⟨#[]⟩, .string ⟨#[]⟩, .string ⟨#[]⟩, .int .i64 0, .int .i64 0, .int .i64 0, .int .i64 0, .int .i64 0, .int .i64 0, .int .i64 0, .int .i64 0, .int .i64 0, .int .i64 0, .string ⟨#[]⟩, .int .i64 0, .int .i64 0, .int .i64 0, .int .i64 0, .int .i64 0, .int .i64 0] 46)) K (by rw [hk22]; rfl) HK1.out
        have HXB := Lib.hid (show ((w4.alloc (.cells #[.string ⟨#[]⟩, .string ⟨#[]⟩, .string ⟨#[]⟩, .string ⟨#[]⟩, .string ⟨#[]⟩, .int .i64 0, .int .i64 0, .int .i64 0, .int .i64 0, .int .i64 0, .int .i64 0, .int .i64 0, .int .i64 0, .int .i64 0, .int .i64 0, .string ⟨#[]⟩, .int .i64 0, .int .i64 0, .int .i64 0, .int .i64 0, .int .i64 0, .int .i64 0] 46)).setCells w4.heap.size 0 K.toList).heap[w4.heap.size]? = some (.cells K 46 (0, 0)) from Vs.row_put (heap_alloc_new w4 (.cells #[.string ⟨#[]⟩, .string ⟨#[]⟩, .string ⟨#[]⟩, .string ⟨#[]⟩, .string ⟨#[]⟩, .int .i64 0, .int .i64 0, .int .i64 0, .int .i64 0, .int .i64 0, .int .i64 0, .int .i64 0, .int .i64 0, .int .i64 0, .int .i64 0, .string ⟨#[]⟩, .int .i64 0, .int .i64 0, .int .i64 0, .int .i64 0, .int .i64 0, .int .i64 0] 46)) (by rw [hk22]; rfl))
        have HZB2 := Lib.hid ((hbp.block gb (Array.getElem?_eq_some_iff.1 HWR.out).1).trans HWR.out)
        have HBW := Lib.hid (HBE.out.trans (hbp.mono HBE.out.size))
        clear hba hbp hb4 hs4 HRO HWR HBE CP
        go_upto_region 32 with fail
        clear hst
        generalize (w4.alloc (.cells #[.string ⟨#[]⟩, .string ⟨#[]⟩, .string ⟨#[]⟩, .string ⟨#[]⟩, .string ⟨#[]⟩, .int .i64 0, .int .i64 0, .int .i64 0, .int .i64 0, .int .i64 0, .int .i64 0, .int .i64 0, .int .i64 0, .int .i64 0, .int .i64 0, .string ⟨#[]⟩, .int .i64 0, .int .i64 0, .int .i64 0, .int .i64 0, .int .i64 0, .int .i64 0] 46)).setCells w4.heap.size 0 K.toList = w5x at *
        generalize w4.heap.size = xg at *
        have HLX := Lib.hid (Vs.box_load _ HKD2.out HXB.out)
        have HLW := Lib.hid (Vs.box_load _ HKD2.out HZB2.out)
        go_wp2_with (first | (refine wpList_load_at 46 _ rfl xg 0 rfl _ HLX.out (by rfl) ?_) | (refine wpList_load_at 46 _ rfl gb 0 rfl _ HLW.out (by rfl) ?_) | (refine wpList_eqD _ _ _ rfl K (by rfl) (by rfl) (HEQ.out _) (by rfl) ?_))
        go_ret
        exact ⟨rfl, HEND.out _ HBW.out⟩
end Go.Proofs.YthkppbimkjmbnaaGreatDoor
