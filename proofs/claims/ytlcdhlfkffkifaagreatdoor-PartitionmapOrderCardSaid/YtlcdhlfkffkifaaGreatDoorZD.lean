/-
  Rows of maps that a call owns.
-/
import Derived.Test.YtlcdhlfkffkifaaGreatDoorZB
import Derived.Test.YtlcdhlfkffkifaaGreatDoorShelf
import Derived.Test.YtlcdhlfkffkifaaGreatDoorZC
import Derived.BigQuiet
import Derived.IntWalk
import Derived.RangeFuncBox
namespace Go.Proofs.YtlcdhlfkffkifaaGreatDoor
open Go.RowKit
namespace Pm
/-- The cells of maps, each with its tables' value. -/
def cellsL (L : List (M × Value)) : List Value := L.flatMap fun p => pmC p.1 p.2
theorem cellsL_len (L : List (M × Value)) : (cellsL L).length = L.length * 6 := by
  induction L with
  | nil => rfl
  | cons p t ih => simp only [cellsL, List.flatMap_cons, List.length_append, List.length_cons] at ih ⊢; rw [ih]; simp [pmC]; omega
theorem cellsL_at (L : List (M × Value)) (d : M × Value) (j : Nat) (h : j < L.length) (k : Nat) (hk : k < 6) : (cellsL L)[j * 6 + k]? = (pmC (L.getD j d).1 (L.getD j d).2)[k]? := by
  induction L generalizing j with
  | nil => simp at h
  | cons p t ih =>
    have hc : cellsL (p :: t) = pmC p.1 p.2 ++ cellsL t := rfl
    have h6 : (pmC p.1 p.2).length = 6 := rfl
    rw [hc]
    cases j with
    | zero =>
      rw [List.getElem?_append_left (by rw [h6]; omega)]
      simp
    | succ j =>
      rw [List.getElem?_append_right (by rw [h6]; omega), h6, show (j + 1) * 6 + k - 6 = j * 6 + k by omega, ih j (by simpa using h)]
      simp
/-- A table: a row of integers that some call owns. -/
abbrev Tab (w : World) (v : Value) (l : List Int) : Prop := w.ownsRow 0 3 1 v l.length (Kit.izs l)
theorem Tab.rowS {w : World} {v : Value} {l : List Int} (h : Tab w v l) : Kit.RowS w v (Kit.izs l) := Kit.RowS.of_own h
theorem Tab.far {w : World} {u v : Value} {l : List Int} {base n : Nat} {xs : List Value} (h : Tab w u l) (k : w.ownsRow base 59 6 v n xs) : v.ownBlock = Option.none ∨ u.ownBlock = Option.none ∨ u.ownBlock ≠ v.ownBlock := by
  rcases h.2 with ⟨rfl, _⟩ | ⟨g, cap, cur, rfl, _, hg, _⟩
  · exact Or.inr (Or.inl rfl)
  · rcases k.2 with ⟨rfl, _⟩ | ⟨g', cap', cur', rfl, _, hg', _⟩
    · exact Or.inl rfl
    · refine Or.inr (Or.inr ?_)
      intro he
      simp only [Value.ownBlock, Option.some.injEq] at he
      subst he
      rw [hg] at hg'
      simp at hg'
/-- A row of maps of the call's own. -/
structure OwnM (w : World) (base : Nat) (v : Value) (L : List (M × Value)) : Prop where
  own : w.ownsRow base 59 6 v L.length (cellsL L)
  tabs : ∀ p ∈ L, Tab w p.2 p.1.tables
  ints : ∀ p ∈ L, I64 p.1
theorem OwnM.nil (w : World) (base : Nat) : OwnM w base (.slice Option.none 0 0) [] := ⟨⟨rfl, Or.inl ⟨rfl, rfl⟩⟩, fun p hp => by simp at hp, fun p hp => by simp at hp⟩
theorem OwnM.below {w w' : World} {base : Nat} {v : Value} {L : List (M × Value)} (h : OwnM w base v L) (hb : Below w.heap.size w w') : OwnM w' base v L :=
  ⟨Kit.own_below h.own hb, fun p hp => Kit.own_below (h.tabs p hp) hb, h.ints⟩
theorem OwnM.base {w : World} {base base' : Nat} {v : Value} {L : List (M × Value)} (h : OwnM w base v L) (hb : base' ≤ base) : OwnM w base' v L := ⟨Kit.own_base h.own hb, h.tabs, h.ints⟩
theorem OwnM.at' {w : World} {base : Nat} {v : Value} {L : List (M × Value)} (h : OwnM w base v L) : MapsAt w v (L.map Prod.fst) (fun j => (L.getD j (Pm.none, .slice Option.none 0 0)).2) := by
  have hg : ∀ j, j < L.length → (L.map Prod.fst).getD j Pm.none = (L.getD j (Pm.none, .slice Option.none 0 0)).1 := fun j hj => by simp [List.getD, hj]
  refine ⟨?_, ?_, ?_⟩
  · rw [List.length_map]
    rcases h.own.2 with ⟨rfl, h0⟩ | ⟨g, cap, cur, rfl, _, hgc, hnc, hcm, _, _⟩
    · exact ⟨Option.none, 0, by rw [h0], by omega, by unfold maxLen; omega, fun h' => by omega⟩
    · refine ⟨some ⟨g, 0, Option.none⟩, cap, rfl, hnc, hcm, fun _ => ⟨g, 0, rfl, (Array.getElem?_eq_some_iff.1 hgc).1, fun j hj k u hu => ?_⟩⟩
      have hk : k < 6 := (List.getElem?_eq_some_iff.1 hu).1
      have := h.own.cells (g := g) rfl (j * 6 + k) u (by rw [cellsL_at L _ j hj k hk, ← hg j hj]; exact hu)
      rw [Addr.add_lit] at this
      rwa [show 0 + j * 6 + k = 0 + (j * 6 + k) by omega]
  · intro j hj
    rw [List.length_map] at hj
    rw [hg j hj]
    exact (h.tabs _ (by simp [List.getD, hj])).rowS
  · intro j hj
    rw [List.length_map] at hj
    rw [hg j hj]
    exact h.ints _ (by simp [List.getD, hj])
end Pm

/-- 'append(v, x)': one map more behind a row of the call's own; its cells have just been laid. -/
theorem pushM {W : World} {ops : Array Oper} {rest : List Oper} {o : Oper} {a : Act} {Q : Exit → Act → World → Prop} (hgd : o.guard = none) (s x : Operand)
    (ho : o.op = .call { callee := .builtin .append, args := #[s, x], argTypes := #[22, 22] })
    (base : Nat) (v : Value) (L : List (Pm.M × Value)) (hs : a.eval s = v) (hown : Pm.OwnM W base v L) (p : Pm.M × Value) (hp : Pm.Tab W p.2 p.1.tables) (hi64 : Pm.I64 p.1)
    (c g : Nat) (hx : a.eval x = .slice (some ⟨g, 0, none⟩) 1 c) (hgs : g = W.heap.size) (h8 : L.length ≤ 64) (hbase : base ≤ W.heap.size)
    (h : ∀ v' w', Pm.OwnM w' base v' (L ++ [p]) → Below base W w' → wpList Tryz.prog ops Q rest (a.put o.dst v') w') :
    wpList Tryz.prog ops Q (o :: rest) a (W.alloc (.cells #[.int .i64 p.1.kind, .int .i64 p.1.number, p.2, .int .i64 p.1.file, .int .i64 p.1.mirror, .int .i64 p.1.bitmap] 59)) := by
  subst hgs
  have hinfo : (Tryz.prog.info? 59).map (fun i => (i.zero, i.size, i.bytes)) = some (some (Pm.pmV Pm.none (.slice none 0 0)), 6, 64) := by kernel_rfl
  obtain ⟨i, hi, hz0, hz1, hz2⟩ := info_parts hinfo
  have ht : Tryz.prog.underlying 22 = some (.slice 59) := by kernel_rfl
  have h1 : ∀ u ∈ Pm.pmC p.1 p.2, u.oneCell' = true := by
    obtain ⟨⟨A, c', he, _, _, _⟩, _⟩ := hp.rowS
    intro u hu
    simp only [Pm.pmC, he, List.mem_cons, List.not_mem_nil, or_false] at hu
    rcases hu with rfl | rfl | rfl | rfl | rfl | rfl <;> rfl
  refine wpList_append_own _ hgd s x _ ho base 59 i _ 6 64 ht hi hz0 hz1 hz2 rfl (by decide) v L.length (Pm.cellsL L) hs (hown.own.alloc _) ⟨W.heap.size, 0, none⟩ 1 c (Pm.pmC p.1 p.2) hx rfl ?_ h1 (by unfold maxLen; omega) (by omega) (by simp; omega) ?_
  · intro j u hu
    rw [Addr.add_lit, World.cell?_alloc_at _ _ _ _ (by simp)]
    simpa [Pm.pmC] using hu
  · intro v' w' ho' hg _
    have hg2 := (World.grownBy_alloc W (.cells #[.int .i64 p.1.kind, .int .i64 p.1.number, p.2, .int .i64 p.1.file, .int .i64 p.1.mirror, .int .i64 p.1.bitmap] 59) v.ownBlock).trans hg
    have hb : Below base W w' := (Below.refl base W).grown hg2 hbase (fun k hk => (hown.own.lt k hk).1)
    refine h v' w' ⟨?_, ?_, ?_⟩ hb
    · have e : Pm.cellsL (L ++ [p]) = Pm.cellsL L ++ Pm.pmC p.1 p.2 := by simp [Pm.cellsL]
      rw [e, List.length_append]
      exact ho'
    · intro q hq
      have hT : Pm.Tab W q.2 q.1.tables := by
        rcases List.mem_append.1 hq with h | h
        · exact hown.tabs q h
        · rw [List.mem_singleton.1 h]; exact hp
      refine hT.kept hg2 ?_
      rcases hT.far hown.own with h | h | h
      · rw [h]
        cases q.2.ownBlock <;> simp
      · exact Or.inl h
      · exact Or.inr h
    · intro q hq
      rcases List.mem_append.1 hq with h | h
      · exact hown.ints q h
      · rw [List.mem_singleton.1 h]; exact hi64
end Go.Proofs.YtlcdhlfkffkifaaGreatDoor

/-
  The program's decode of a map: its number function; the ways out before a name is read.
-/
namespace Go.Proofs.YtlcdhlfkffkifaaGreatDoor
open Go.RowKit Go.Maps

theorem readR_at (d : List UInt8) (a k : Nat) (hk : k ≤ 4) (h : a + k ≤ d.length) : Pm.readR d (a : Int) k = ((Pm.at_ d a k : Int), 0) := by
  have h1 := Pm.at_lt d a k
  have h2 : 256 ^ k ≤ 256 ^ 4 := Nat.pow_le_pow_right (by decide) hk
  unfold Pm.readR
  rw [if_neg (by omega), Int.toNat_natCast, if_neg (by omega)]

set_option maxHeartbeats 1600000 in
set_option maxRecDepth 100000 in
/-- partitionmap.decode$1. -/
theorem number_any (d : ByteArray) (a k : Nat) (A K : Int) (hA : A = (a : Int)) (hK : K = (k : Int)) (g : Nat) (w : World) (hk : Pm.Sz k) (h4 : k ≤ 4) (ha : a + k ≤ d.size) (hs : d.size ≤ 9223372036854775807) (hg : w.cell? ⟨g, 0, none⟩ = some (.string d)) :
    Calls Tryz.prog 59 #[.int .i64 A, .int .i64 K, .pointer (some ⟨g, 0, none⟩)] w fun e w' => e = .returned (.int .i64 (Pm.at_ d.data.toList a k : Int)) ∧ w = w' := by
  subst hA hK
  have CR := Lib.hid (fun W => readLittle_any d (a : Int) k hk hs W)
  rw [readR_at d.data.toList a k h4 (by rw [Kit.len_size]; exact ha)] at CR
  generalize Pm.at_ d.data.toList a k = q at *
  clear hk h4 ha hs
  go_enter Tryz.func59, Tryz.ntmps59
  go_wp2_with fail
  refine (CR.out _).mono ?_
  rintro e w2 ⟨rfl, rfl⟩
  go_wp2_with fail
  go_ret
  exact ⟨rfl, rfl⟩

/-- What decode's results are read as. -/
theorem dec_results (tmps : Array Value) (W : World) (g : Nat) (cs : List Value) (x y : Value) (h6 : cs.length = 6) (h2 : tmps.getD 2 undef = .pointer (some ⟨g, 0, none⟩)) (h3 : tmps.getD 3 undef = x) (h4 : tmps.getD 4 undef = y)
    (hc : ∀ j v, cs[j]? = some v → W.cell? ⟨g, j, none⟩ = some v) : (results Tryz.f31 tmps).run Tryz.prog W = .ok (.tuple #[.agg cs.toArray, x, y]) W := by
  have hl : (loadCells ⟨g, 0, none⟩ cs.length).run Tryz.prog W = .ok cs.toArray W := run_loadCells_list (P := Tryz.prog) W ⟨g, 0, none⟩ cs (fun j v hv => by rw [Addr.add_lit, Nat.zero_add]; exact hc j v hv)
  rw [h6] at hl
  have ha : ∀ w : World, (isAgg 59).run Tryz.prog w = .ok true w := fun _ => by kernel_rfl
  have hs : ∀ w : World, (sizeOf 59).run Tryz.prog w = .ok 6 w := fun _ => by kernel_rfl
  have hv : (loadVar 59 ⟨g, 0, none⟩).run Tryz.prog W = .ok (.agg cs.toArray) W := by
    simp [loadVar, ha, hs, hl]
  rw [Array.getD_eq_getD_getElem?] at h2 h3 h4
  simp [results, h2, h3, h4, hv, asAddr]
/-- Six cells written, one after the other. -/
theorem set6 (W : World) (g : Nat) (u0 u1 u2 u3 u4 u5 : Value) (h : ∀ j, j < 6 → ∃ x, W.cell? ⟨g, j, none⟩ = some x) : ∀ j v, ([u0, u1, u2, u3, u4, u5] : List Value)[j]? = some v →
    ((((((W.setCell ⟨g, 0, none⟩ u0).setCell ⟨g, 1, none⟩ u1).setCell ⟨g, 2, none⟩ u2).setCell ⟨g, 3, none⟩ u3).setCell ⟨g, 4, none⟩ u4).setCell ⟨g, 5, none⟩ u5).cell? ⟨g, j, none⟩ = some v := by
  obtain ⟨x0, h0⟩ := h 0 (by omega)
  obtain ⟨x1, h1⟩ := h 1 (by omega)
  obtain ⟨x2, h2⟩ := h 2 (by omega)
  obtain ⟨x3, h3⟩ := h 3 (by omega)
  obtain ⟨x4, h4⟩ := h 4 (by omega)
  obtain ⟨x5, h5⟩ := h 5 (by omega)
  intro j v hv
  rcases j with _ | _ | _ | _ | _ | _ | j
  all_goals (simp at hv; try subst hv)
  all_goals simp [World.cell?_setCell_other, World.cell?_setCell_same, h0, h1, h2, h3, h4, h5]
/-- What decode hands back when it fails. -/
def badV (e : Int) : Value := .tuple #[Pm.pmV Pm.none (.slice none 0 0), .int .i64 0, .int .i64 e]

/-- The world at decode's door: the string's box, the results' variable. -/
abbrev decW (w : World) (d : ByteArray) : World := (w.alloc (.cells #[.string d] 9)).alloc (.cells #[.int .i64 0, .int .i64 0, .slice none 0 0, .int .i64 0, .int .i64 0, .int .i64 0] 59)
theorem dec_fin (w : World) (d : ByteArray) (Wx : World) (hb : Below (w.heap.size + 1 + 1) (decW w d) Wx) (u0 u1 u2 u3 u4 u5 : Value) :
    (∀ j v, ([u0, u1, u2, u3, u4, u5] : List Value)[j]? = some v → ((((((Wx.setCell ⟨w.heap.size + 1, 0, none⟩ u0).setCell ⟨w.heap.size + 1, 1, none⟩ u1).setCell ⟨w.heap.size + 1, 2, none⟩ u2).setCell ⟨w.heap.size + 1, 3, none⟩ u3).setCell ⟨w.heap.size + 1, 4, none⟩ u4).setCell ⟨w.heap.size + 1, 5, none⟩ u5).cell? ⟨w.heap.size + 1, j, none⟩ = some v) ∧
    Below w.heap.size w ((((((Wx.setCell ⟨w.heap.size + 1, 0, none⟩ u0).setCell ⟨w.heap.size + 1, 1, none⟩ u1).setCell ⟨w.heap.size + 1, 2, none⟩ u2).setCell ⟨w.heap.size + 1, 3, none⟩ u3).setCell ⟨w.heap.size + 1, 4, none⟩ u4).setCell ⟨w.heap.size + 1, 5, none⟩ u5) := by
  constructor
  · refine set6 _ _ _ _ _ _ _ _ fun j hj => ?_
    rw [hb.cell (p := ⟨w.heap.size + 1, j, none⟩) (by simp)]
    have hs : (w.alloc (.cells #[.string d] 9)).heap.size = w.heap.size + 1 := by simp
    refine ⟨(#[.int .i64 0, .int .i64 0, .slice none 0 0, .int .i64 0, .int .i64 0, .int .i64 0] : Array Value).getD j undef, ?_⟩
    unfold decW
    rw [World.cell?_alloc_at _ _ _ _ (by simp)]
    rcases j with _ | _ | _ | _ | _ | _ | j
    all_goals first | rfl | omega
  · have h0 : Below w.heap.size w (decW w d) := ((Below.refl _ w).alloc (Nat.le_refl _) _).alloc (by simp) _
    have h1 := h0.trans (hb.mono (by omega))
    exact ((((((h1.setCell (p := ⟨w.heap.size + 1, 0, none⟩) (by simp) u0).setCell (p := ⟨w.heap.size + 1, 1, none⟩) (by simp) u1).setCell (p := ⟨w.heap.size + 1, 2, none⟩) (by simp) u2).setCell (p := ⟨w.heap.size + 1, 3, none⟩) (by simp) u3).setCell (p := ⟨w.heap.size + 1, 4, none⟩) (by simp) u4).setCell (p := ⟨w.heap.size + 1, 5, none⟩) (by simp) u5)

/-- A map of two, by bytes. -/
def twoD : DataW Value := ((DataW.map []).put (.int .u8 1) (.held (.int .i64 6))).put (.int .u8 2) (.held (.int .i64 64))
theorem keyedU8 : Keyed Tryz.prog 5 := int_keyed Tryz.underlying5
abbrev BMap (w : World) (b n : Nat) (D : DataW Value) : Prop := w.ownsMap Tryz.prog 5 asIs b n D
theorem two_look (k : Int) (w : World) (b n : Nat) (h : BMap w b n twoD) (hw : (Lit.int .u8 k).wf = true) :
    (Instr.lookup 92 (.map (some b)) (.int .u8 k) false).run Tryz.prog w = .ok (.int .i64 (if k = 1 then 6 else if k = 2 then 64 else 0)) w := by
  have hz : (zeroValue 3).run Tryz.prog w = .ok (.int .i64 0) w := by kernel_rfl
  obtain ⟨v, ps, hrun, hv⟩ := World.ownsMap.lookup h keyedU8 (by kernel_rfl) hz (show asIs (.int .i64 0) = some (.held (.int .i64 0), []) from rfl) (keyOf_int_mk Tryz.underlying5 hw)
  rw [hrun]
  have hd : twoD.atKey (.int .u8 k) (.held (.int .i64 0)) = .held (.int .i64 (if k = 1 then 6 else if k = 2 then 64 else 0)) := by
    have e : twoD = .map [(.int .u8 1, .held (.int .i64 6)), (.int .u8 2, .held (.int .i64 64))] := rfl
    rw [e]
    by_cases h1 : k = 1
    · subst h1; rfl
    · by_cases h2 : k = 2
      · subst h2; rfl
      · rw [if_neg h1, if_neg h2]
        simp [DataW.atKey, List.find?, Lit.sameKey, Ne.symm h1, Ne.symm h2]
  rw [hd] at hv
  unfold asIs at hv
  simp only [Option.some.injEq, Prod.mk.injEq, DataW.held.injEq] at hv
  rw [hv.1]

set_option maxHeartbeats 3200000 in
set_option maxRecDepth 100000 in
/-- partitionmap.decode of what is too short. -/
theorem decode_short (d : ByteArray) (w : World) (h : d.size < 2 ∨ d.size < Cs.byt d.data.toList 1) (hs : d.size ≤ 4096) :
    Calls Tryz.prog 31 #[.string d] w fun e w' => e = .returned (badV 10) ∧ Below w.heap.size w w' := by
  by_cases h2 : d.size < 2
  · have d2 : decide ((d.size : Int) < 2) = true := decide_eq_true (by omega)
    go_enter Tryz.func31, Tryz.ntmps31
    go_wp2_with fail
    go_quiet (fail)
    go_wp2_with fail
    have hf := dec_fin w d ((((decW w d).alloc (.cells #[.int .i64 0, .int .i64 0, .slice none 0 0, .int .i64 0, .int .i64 0, .int .i64 0] 59))).drewN nq) (Kit.Below.drewN ((Below.refl _ _).alloc (by simp) _) nq) (.int .i64 0) (.int .i64 0) (.slice none 0 0) (.int .i64 0) (.int .i64 0) (.int .i64 0)
    exact bodyPost_ret (dec_results _ _ (w.heap.size + 1) [.int .i64 0, .int .i64 0, .slice none 0 0, .int .i64 0, .int .i64 0, .int .i64 0] (.int .i64 0) (.int .i64 10) rfl rfl rfl rfl hf.1) rfl ⟨rfl, hf.2⟩
  · have d2 : decide ((d.size : Int) < 2) = false := decide_eq_false (by omega)
    have hi : 1 < d.size := by omega
    have hb := Kit.byt_get d 1 hi
    have hl1 := Cs.byt_lt d.data.toList 1
    have hw1 := IntWalk.wrap64_in (Cs.byt d.data.toList 1 : Int) (by omega)
    have d3 : decide ((d.size : Int) < (Cs.byt d.data.toList 1 : Int)) = true := decide_eq_true (by omega)
    go_enter Tryz.func31, Tryz.ntmps31
    go_wp2_with fail
    go_quiet (fail)
    go_wp2_with fail
    have hf := dec_fin w d ((((decW w d).alloc (.cells #[.int .i64 0, .int .i64 0, .slice none 0 0, .int .i64 0, .int .i64 0, .int .i64 0] 59))).drewN nq) (Kit.Below.drewN ((Below.refl _ _).alloc (by simp) _) nq) (.int .i64 0) (.int .i64 0) (.slice none 0 0) (.int .i64 0) (.int .i64 0) (.int .i64 0)
    exact bodyPost_ret (dec_results _ _ (w.heap.size + 1) [.int .i64 0, .int .i64 0, .slice none 0 0, .int .i64 0, .int .i64 0, .int .i64 0] (.int .i64 0) (.int .i64 10) rfl rfl rfl rfl hf.1) rfl ⟨rfl, hf.2⟩
end Go.Proofs.YtlcdhlfkffkifaaGreatDoor

/-
  The program's decode of a map: the ways out before a name is read.
-/
namespace Go.Proofs.YtlcdhlfkffkifaaGreatDoor
open Go.RowKit Go.Maps

/-- What stands at decode's lookup: the string's box, the results' variable, the empty map. -/
structure DecAt (w : World) (d : ByteArray) (W : World) : Prop where
  below : Below (w.heap.size + 1 + 1) (decW w d) W
  str : W.cell? ⟨w.heap.size, 0, none⟩ = some (.string d)
  res : ∀ (j : Nat) v, (#[.int .i64 0, .int .i64 0, .slice none 0 0, .int .i64 0, .int .i64 0, .int .i64 0] : Array Value)[j]? = some v → W.cell? ⟨w.heap.size + 1, j, none⟩ = some v
  free : ∀ (j : Nat), W.frozen? ⟨w.heap.size + 1, j, none⟩ = false
  non : ∀ (j : Nat) v, (#[.int .i64 0, .int .i64 0, .slice none 0 0, .int .i64 0, .int .i64 0, .int .i64 0] : Array Value)[j]? = some v → W.cell? ⟨w.heap.size + 1 + 1, j, none⟩ = some v
  size : w.heap.size + 1 + 1 + 1 ≤ W.heap.size
theorem DecAt.later {w : World} {d : ByteArray} {W W' : World} (h : DecAt w d W) (hb : Below W.heap.size W W') : DecAt w d W' := by
  have hs := h.size
  exact ⟨h.below.trans (hb.mono (by omega)), (hb.cell (p := ⟨w.heap.size, 0, none⟩) (by simp; omega)).trans h.str, fun j v hv => (hb.cell (p := ⟨w.heap.size + 1, j, none⟩) (by simp; omega)).trans (h.res j v hv),
    fun j => (hb.frozen (p := ⟨w.heap.size + 1, j, none⟩) (by simp; omega)).trans (h.free j), fun j v hv => (hb.cell (p := ⟨w.heap.size + 1 + 1, j, none⟩) (by simp; omega)).trans (h.non j v hv), Nat.le_trans hs hb.size⟩
theorem DecAt.start (w : World) (d : ByteArray) (nq : Nat) {W : World} (hb : Below (w.heap.size + 1 + 1 + 1) (((decW w d).alloc (.cells #[.int .i64 0, .int .i64 0, .slice none 0 0, .int .i64 0, .int .i64 0, .int .i64 0] 59)).drewN nq) W) : DecAt w d W := by
  have h1 : (w.alloc (.cells #[.string d] 9)).heap.size = w.heap.size + 1 := by simp
  have h2 : (decW w d).heap.size = w.heap.size + 1 + 1 := by simp
  have hd1 : Below (w.heap.size + 1) (w.alloc (.cells #[.string d] 9)) W := (((Below.refl _ _).alloc (by simp) _).trans (Kit.Below.drewN ((Below.refl (w.heap.size + 1) (decW w d)).alloc (by simp) (.cells #[.int .i64 0, .int .i64 0, .slice none 0 0, .int .i64 0, .int .i64 0, .int .i64 0] 59)) nq)).trans (hb.mono (by omega))
  have hd2 : Below (w.heap.size + 1 + 1) (decW w d) W := (Kit.Below.drewN ((Below.refl (w.heap.size + 1 + 1) (decW w d)).alloc (by simp) (.cells #[.int .i64 0, .int .i64 0, .slice none 0 0, .int .i64 0, .int .i64 0, .int .i64 0] 59)) nq).trans (hb.mono (by omega))
  refine ⟨hd2, ?_, ?_, ?_, ?_, ?_⟩
  · rw [hd1.cell (p := ⟨w.heap.size, 0, none⟩) (by simp), World.cell?_alloc_at _ _ _ _ (by simp)]
    rfl
  · intro j v hv
    rw [hd2.cell (p := ⟨w.heap.size + 1, j, none⟩) (by simp), World.cell?_alloc_at _ _ _ _ (by simp)]
    simpa using hv
  · intro j
    rw [hd2.frozen (p := ⟨w.heap.size + 1, j, none⟩) (by simp)]
    have := World.frozen?_alloc_mark (w.alloc (.cells #[.string d] 9)) #[.int .i64 0, .int .i64 0, .slice none 0 0, .int .i64 0, .int .i64 0, .int .i64 0] 59 0 0 j
    rw [h1] at this
    rw [this]
    simp
  · intro j v hv
    rw [hb.cell (p := ⟨w.heap.size + 1 + 1, j, none⟩) (by simp)]
    show ((decW w d).alloc (.cells #[.int .i64 0, .int .i64 0, .slice none 0 0, .int .i64 0, .int .i64 0, .int .i64 0] 59)).cell? ⟨w.heap.size + 1 + 1, j, none⟩ = some v
    rw [World.cell?_alloc_at _ _ _ _ (by simp)]
    simpa using hv
  · have := hb.size
    simp at this
    exact this

set_option maxHeartbeats 6400000 in
set_option maxRecDepth 100000 in
/-- partitionmap.decode: neither kind of bytes. -/
theorem decode_unknown (d : ByteArray) (w : World) (h2 : 2 ≤ d.size) (h1 : Cs.byt d.data.toList 1 ≤ d.size) (h0 : ¬ Cs.byt d.data.toList 0 = 1) (h0' : ¬ Cs.byt d.data.toList 0 = 2) (hs : d.size ≤ 4096) :
    Calls Tryz.prog 31 #[.string d] w fun e w' => e = .returned (badV 14) ∧ Below w.heap.size w w' := by
  have hi1 : 1 < d.size := by omega
  have hi0 : 0 < d.size := by omega
  have hy0 := Kit.byt_get d 0 hi0
  have hy1 := Kit.byt_get d 1 hi1
  have hl0 := Cs.byt_lt d.data.toList 0
  have hl1 := Cs.byt_lt d.data.toList 1
  have hw1 := IntWalk.wrap64_in (Cs.byt d.data.toList 1 : Int) (by omega)
  have d2 : decide ((d.size : Int) < 2) = false := decide_eq_false (by omega)
  have d3 : decide ((d.size : Int) < (Cs.byt d.data.toList 1 : Int)) = false := decide_eq_false (by omega)
  have hwk : (Lit.int .u8 (Cs.byt d.data.toList 0 : Int)).wf = true := by
    show (decide (IntKind.min .u8 ≤ (Cs.byt d.data.toList 0 : Int)) && decide ((Cs.byt d.data.toList 0 : Int) ≤ IntKind.max .u8)) = true
    rw [show IntKind.min .u8 = 0 from rfl, show IntKind.max .u8 = 255 from rfl, Bool.and_eq_true, decide_eq_true_eq, decide_eq_true_eq]
    omega
  have hmm := @run_makeMap Tryz.prog
  have H0 : Hid (∀ nq, BMap ((((decW w d).alloc (.cells #[.int .i64 0, .int .i64 0, .slice none 0 0, .int .i64 0, .int .i64 0, .int .i64 0] 59)).drewN nq).alloc (.map #[] 0)) (w.heap.size + 1 + 1 + 1) 0 (.map [])) := Lib.hid fun nq => by
    have h := World.ownsMap_made (((decW w d).alloc (.cells #[.int .i64 0, .int .i64 0, .slice none 0 0, .int .i64 0, .int .i64 0, .int .i64 0] 59)).drewN nq) Tryz.prog 5 asIs
    rw [show (((decW w d).alloc (.cells #[.int .i64 0, .int .i64 0, .slice none 0 0, .int .i64 0, .int .i64 0, .int .i64 0] 59)).drewN nq).heap.size = w.heap.size + 1 + 1 + 1 by simp] at h
    exact h
  go_enter Tryz.func31, Tryz.ntmps31
  go_wp2_with fail
  go_quiet (fail)
  go_wp2_with (refine Kit.wpList_insert_own _ rfl (.tmp 30) _ _ _ rfl 5 3 keyedU8 (by kernel_rfl) _ (w.heap.size + 1 + 1 + 1) 0 _ rfl (H0.out nq) (by unfold maxLen; omega) (.int .u8 1) _ (.int .u8 1) rfl rfl (keyOf_int_mk Tryz.underlying5 (by decide)) _ [] rfl ?_)
  intro w1 hown1 hg1
  have H1 := Lib.hid hown1
  clear hown1
  go_wp2_with (refine Kit.wpList_insert_own _ rfl (.tmp 30) _ _ _ rfl 5 3 keyedU8 (by kernel_rfl) _ (w.heap.size + 1 + 1 + 1) 1 _ rfl H1.out (by unfold maxLen; omega) (.int .u8 2) _ (.int .u8 2) rfl rfl (keyOf_int_mk Tryz.underlying5 (by decide)) _ [] rfl ?_)
  intro w2 hown2 hg2
  have hlk := two_look (Cs.byt d.data.toList 0 : Int) w2 (w.heap.size + 1 + 1 + 1) 2 hown2 hwk
  have hgg := hg1.trans hg2
  have hD : DecAt w d w2 := DecAt.start w d nq (((Below.refl _ _).alloc (by simp) _).grown hgg (by simp) (fun q hq => by cases hq; exact Nat.le_refl _))
  clear hown2 hgg hg1 hg2 H0 H1 hwk
  rw [if_neg (by omega), if_neg (by omega)] at hlk
  have r0 := hD.res 0 _ rfl
  have n0 := hD.non 0 _ rfl
  have f0 := hD.free 0
  have r1 := hD.res 1 _ rfl
  have n1 := hD.non 1 _ rfl
  have f1 := hD.free 1
  have r2 := hD.res 2 _ rfl
  have n2 := hD.non 2 _ rfl
  have f2 := hD.free 2
  have r3 := hD.res 3 _ rfl
  have n3 := hD.non 3 _ rfl
  have f3 := hD.free 3
  have r4 := hD.res 4 _ rfl
  have n4 := hD.non 4 _ rfl
  have f4 := hD.free 4
  have r5 := hD.res 5 _ rfl
  have n5 := hD.non 5 _ rfl
  have f5 := hD.free 5
  have hstr := hD.str
  have HD := Lib.hid hD
  clear hD
  go_wp2_with fail
  have hf := dec_fin w d _ HD.out.below (.int .i64 0) (.int .i64 0) (.slice none 0 0) (.int .i64 0) (.int .i64 0) (.int .i64 0)
  exact bodyPost_ret (dec_results _ _ (w.heap.size + 1) [.int .i64 0, .int .i64 0, .slice none 0 0, .int .i64 0, .int .i64 0, .int .i64 0] (.int .i64 0) (.int .i64 14) rfl rfl rfl rfl hf.1) rfl ⟨rfl, hf.2⟩

set_option maxHeartbeats 6400000 in
set_option maxRecDepth 100000 in
/-- partitionmap.decode: the first kind, of another length. -/
theorem decode_one_bad (d : ByteArray) (w : World) (h2 : 2 ≤ d.size) (h1 : Cs.byt d.data.toList 1 ≤ d.size) (h0 : Cs.byt d.data.toList 0 = 1) (h6 : ¬ Cs.byt d.data.toList 1 = 6) (hs : d.size ≤ 4096) :
    Calls Tryz.prog 31 #[.string d] w fun e w' => e = .returned (badV 10) ∧ Below w.heap.size w w' := by
  have hi1 : 1 < d.size := by omega
  have hi0 : 0 < d.size := by omega
  have hy0 := Kit.byt_get d 0 hi0
  have hy1 := Kit.byt_get d 1 hi1
  have hl0 := Cs.byt_lt d.data.toList 0
  have hl1 := Cs.byt_lt d.data.toList 1
  have hw1 := IntWalk.wrap64_in (Cs.byt d.data.toList 1 : Int) (by omega)
  have d2 : decide ((d.size : Int) < 2) = false := decide_eq_false (by omega)
  have d3 : decide ((d.size : Int) < (Cs.byt d.data.toList 1 : Int)) = false := decide_eq_false (by omega)
  have hwk : (Lit.int .u8 (Cs.byt d.data.toList 0 : Int)).wf = true := by
    show (decide (IntKind.min .u8 ≤ (Cs.byt d.data.toList 0 : Int)) && decide ((Cs.byt d.data.toList 0 : Int) ≤ IntKind.max .u8)) = true
    rw [show IntKind.min .u8 = 0 from rfl, show IntKind.max .u8 = 255 from rfl, Bool.and_eq_true, decide_eq_true_eq, decide_eq_true_eq]
    omega
  have hmm := @run_makeMap Tryz.prog
  have H0 : Hid (∀ nq, BMap ((((decW w d).alloc (.cells #[.int .i64 0, .int .i64 0, .slice none 0 0, .int .i64 0, .int .i64 0, .int .i64 0] 59)).drewN nq).alloc (.map #[] 0)) (w.heap.size + 1 + 1 + 1) 0 (.map [])) := Lib.hid fun nq => by
    have h := World.ownsMap_made (((decW w d).alloc (.cells #[.int .i64 0, .int .i64 0, .slice none 0 0, .int .i64 0, .int .i64 0, .int .i64 0] 59)).drewN nq) Tryz.prog 5 asIs
    rw [show (((decW w d).alloc (.cells #[.int .i64 0, .int .i64 0, .slice none 0 0, .int .i64 0, .int .i64 0, .int .i64 0] 59)).drewN nq).heap.size = w.heap.size + 1 + 1 + 1 by simp] at h
    exact h
  go_enter Tryz.func31, Tryz.ntmps31
  go_wp2_with fail
  go_quiet (fail)
  go_wp2_with (refine Kit.wpList_insert_own _ rfl (.tmp 30) _ _ _ rfl 5 3 keyedU8 (by kernel_rfl) _ (w.heap.size + 1 + 1 + 1) 0 _ rfl (H0.out nq) (by unfold maxLen; omega) (.int .u8 1) _ (.int .u8 1) rfl rfl (keyOf_int_mk Tryz.underlying5 (by decide)) _ [] rfl ?_)
  intro w1 hown1 hg1
  have H1 := Lib.hid hown1
  clear hown1
  go_wp2_with (refine Kit.wpList_insert_own _ rfl (.tmp 30) _ _ _ rfl 5 3 keyedU8 (by kernel_rfl) _ (w.heap.size + 1 + 1 + 1) 1 _ rfl H1.out (by unfold maxLen; omega) (.int .u8 2) _ (.int .u8 2) rfl rfl (keyOf_int_mk Tryz.underlying5 (by decide)) _ [] rfl ?_)
  intro w2 hown2 hg2
  have hlk := two_look (Cs.byt d.data.toList 0 : Int) w2 (w.heap.size + 1 + 1 + 1) 2 hown2 hwk
  have hgg := hg1.trans hg2
  have hD : DecAt w d w2 := DecAt.start w d nq (((Below.refl _ _).alloc (by simp) _).grown hgg (by simp) (fun q hq => by cases hq; exact Nat.le_refl _))
  clear hown2 hgg hg1 hg2 H0 H1 hwk
  rw [if_pos (by omega)] at hlk
  clear h0
  have d6 : ((Cs.byt d.data.toList 1 : Int) != 6) = true := by rw [bne_iff_ne]; omega
  have r0 := hD.res 0 _ rfl
  have n0 := hD.non 0 _ rfl
  have f0 := hD.free 0
  have r1 := hD.res 1 _ rfl
  have n1 := hD.non 1 _ rfl
  have f1 := hD.free 1
  have r2 := hD.res 2 _ rfl
  have n2 := hD.non 2 _ rfl
  have f2 := hD.free 2
  have r3 := hD.res 3 _ rfl
  have n3 := hD.non 3 _ rfl
  have f3 := hD.free 3
  have r4 := hD.res 4 _ rfl
  have n4 := hD.non 4 _ rfl
  have f4 := hD.free 4
  have r5 := hD.res 5 _ rfl
  have n5 := hD.non 5 _ rfl
  have f5 := hD.free 5
  have hstr := hD.str
  have HD := Lib.hid hD
  clear hD
  go_wp2_with fail
  have hf := dec_fin w d _ HD.out.below (.int .i64 0) (.int .i64 0) (.slice none 0 0) (.int .i64 0) (.int .i64 0) (.int .i64 0)
  exact bodyPost_ret (dec_results _ _ (w.heap.size + 1) [.int .i64 0, .int .i64 0, .slice none 0 0, .int .i64 0, .int .i64 0, .int .i64 0] (.int .i64 0) (.int .i64 10) rfl rfl rfl rfl hf.1) rfl ⟨rfl, hf.2⟩

set_option maxHeartbeats 6400000 in
set_option maxRecDepth 100000 in
/-- partitionmap.decode: the second kind, of another length. -/
theorem decode_two_bad (d : ByteArray) (w : World) (h2 : 2 ≤ d.size) (h1 : Cs.byt d.data.toList 1 ≤ d.size) (h0 : Cs.byt d.data.toList 0 = 2) (h6 : ¬ Cs.byt d.data.toList 1 = 64) (hs : d.size ≤ 4096) :
    Calls Tryz.prog 31 #[.string d] w fun e w' => e = .returned (badV 10) ∧ Below w.heap.size w w' := by
  have hi1 : 1 < d.size := by omega
  have hi0 : 0 < d.size := by omega
  have hy0 := Kit.byt_get d 0 hi0
  have hy1 := Kit.byt_get d 1 hi1
  have hl0 := Cs.byt_lt d.data.toList 0
  have hl1 := Cs.byt_lt d.data.toList 1
  have hw1 := IntWalk.wrap64_in (Cs.byt d.data.toList 1 : Int) (by omega)
  have d2 : decide ((d.size : Int) < 2) = false := decide_eq_false (by omega)
  have d3 : decide ((d.size : Int) < (Cs.byt d.data.toList 1 : Int)) = false := decide_eq_false (by omega)
  have hwk : (Lit.int .u8 (Cs.byt d.data.toList 0 : Int)).wf = true := by
    show (decide (IntKind.min .u8 ≤ (Cs.byt d.data.toList 0 : Int)) && decide ((Cs.byt d.data.toList 0 : Int) ≤ IntKind.max .u8)) = true
    rw [show IntKind.min .u8 = 0 from rfl, show IntKind.max .u8 = 255 from rfl, Bool.and_eq_true, decide_eq_true_eq, decide_eq_true_eq]
    omega
  have hmm := @run_makeMap Tryz.prog
  have H0 : Hid (∀ nq, BMap ((((decW w d).alloc (.cells #[.int .i64 0, .int .i64 0, .slice none 0 0, .int .i64 0, .int .i64 0, .int .i64 0] 59)).drewN nq).alloc (.map #[] 0)) (w.heap.size + 1 + 1 + 1) 0 (.map [])) := Lib.hid fun nq => by
    have h := World.ownsMap_made (((decW w d).alloc (.cells #[.int .i64 0, .int .i64 0, .slice none 0 0, .int .i64 0, .int .i64 0, .int .i64 0] 59)).drewN nq) Tryz.prog 5 asIs
    rw [show (((decW w d).alloc (.cells #[.int .i64 0, .int .i64 0, .slice none 0 0, .int .i64 0, .int .i64 0, .int .i64 0] 59)).drewN nq).heap.size = w.heap.size + 1 + 1 + 1 by simp] at h
    exact h
  go_enter Tryz.func31, Tryz.ntmps31
  go_wp2_with fail
  go_quiet (fail)
  go_wp2_with (refine Kit.wpList_insert_own _ rfl (.tmp 30) _ _ _ rfl 5 3 keyedU8 (by kernel_rfl) _ (w.heap.size + 1 + 1 + 1) 0 _ rfl (H0.out nq) (by unfold maxLen; omega) (.int .u8 1) _ (.int .u8 1) rfl rfl (keyOf_int_mk Tryz.underlying5 (by decide)) _ [] rfl ?_)
  intro w1 hown1 hg1
  have H1 := Lib.hid hown1
  clear hown1
  go_wp2_with (refine Kit.wpList_insert_own _ rfl (.tmp 30) _ _ _ rfl 5 3 keyedU8 (by kernel_rfl) _ (w.heap.size + 1 + 1 + 1) 1 _ rfl H1.out (by unfold maxLen; omega) (.int .u8 2) _ (.int .u8 2) rfl rfl (keyOf_int_mk Tryz.underlying5 (by decide)) _ [] rfl ?_)
  intro w2 hown2 hg2
  have hlk := two_look (Cs.byt d.data.toList 0 : Int) w2 (w.heap.size + 1 + 1 + 1) 2 hown2 hwk
  have hgg := hg1.trans hg2
  have hD : DecAt w d w2 := DecAt.start w d nq (((Below.refl _ _).alloc (by simp) _).grown hgg (by simp) (fun q hq => by cases hq; exact Nat.le_refl _))
  clear hown2 hgg hg1 hg2 H0 H1 hwk
  rw [if_neg (by omega), if_pos (by omega)] at hlk
  clear h0
  have d6 : ((Cs.byt d.data.toList 1 : Int) != 64) = true := by rw [bne_iff_ne]; omega
  have r0 := hD.res 0 _ rfl
  have n0 := hD.non 0 _ rfl
  have f0 := hD.free 0
  have r1 := hD.res 1 _ rfl
  have n1 := hD.non 1 _ rfl
  have f1 := hD.free 1
  have r2 := hD.res 2 _ rfl
  have n2 := hD.non 2 _ rfl
  have f2 := hD.free 2
  have r3 := hD.res 3 _ rfl
  have n3 := hD.non 3 _ rfl
  have f3 := hD.free 3
  have r4 := hD.res 4 _ rfl
  have n4 := hD.non 4 _ rfl
  have f4 := hD.free 4
  have r5 := hD.res 5 _ rfl
  have n5 := hD.non 5 _ rfl
  have f5 := hD.free 5
  have hstr := hD.str
  have HD := Lib.hid hD
  clear hD
  go_wp2_with fail
  have hf := dec_fin w d _ HD.out.below (.int .i64 0) (.int .i64 0) (.slice none 0 0) (.int .i64 0) (.int .i64 0) (.int .i64 0)
  exact bodyPost_ret (dec_results _ _ (w.heap.size + 1) [.int .i64 0, .int .i64 0, .slice none 0 0, .int .i64 0, .int .i64 0, .int .i64 0] (.int .i64 0) (.int .i64 10) rfl rfl rfl rfl hf.1) rfl ⟨rfl, hf.2⟩

set_option maxHeartbeats 6400000 in
set_option maxRecDepth 100000 in
/-- partitionmap.decode: the first kind. -/
theorem decode_one (d : ByteArray) (w : World) (h2 : 2 ≤ d.size) (h1 : Cs.byt d.data.toList 1 ≤ d.size) (h0 : Cs.byt d.data.toList 0 = 1) (h6 : Cs.byt d.data.toList 1 = 6) (hs : d.size ≤ 4096) :
    Calls Tryz.prog 31 #[.string d] w fun e w' => e = .returned (.tuple #[Pm.pmV ⟨0, (Pm.at_ d.data.toList 4 2 : Int), [], 0, 0, 0⟩ (.slice none 0 0), .int .i64 6, .int .i64 0]) ∧ Below w.heap.size w w' := by
  have hi1 : 1 < d.size := by omega
  have hi0 : 0 < d.size := by omega
  have hy0 := Kit.byt_get d 0 hi0
  have hy1 := Kit.byt_get d 1 hi1
  have hl0 := Cs.byt_lt d.data.toList 0
  have hl1 := Cs.byt_lt d.data.toList 1
  have hw1 := IntWalk.wrap64_in (Cs.byt d.data.toList 1 : Int) (by omega)
  have d2 : decide ((d.size : Int) < 2) = false := decide_eq_false (by omega)
  have d3 : decide ((d.size : Int) < (Cs.byt d.data.toList 1 : Int)) = false := decide_eq_false (by omega)
  have hwk : (Lit.int .u8 (Cs.byt d.data.toList 0 : Int)).wf = true := by
    show (decide (IntKind.min .u8 ≤ (Cs.byt d.data.toList 0 : Int)) && decide ((Cs.byt d.data.toList 0 : Int) ≤ IntKind.max .u8)) = true
    rw [show IntKind.min .u8 = 0 from rfl, show IntKind.max .u8 = 255 from rfl, Bool.and_eq_true, decide_eq_true_eq, decide_eq_true_eq]
    omega
  have hmm := @run_makeMap Tryz.prog
  have H0 : Hid (∀ nq, BMap ((((decW w d).alloc (.cells #[.int .i64 0, .int .i64 0, .slice none 0 0, .int .i64 0, .int .i64 0, .int .i64 0] 59)).drewN nq).alloc (.map #[] 0)) (w.heap.size + 1 + 1 + 1) 0 (.map [])) := Lib.hid fun nq => by
    have h := World.ownsMap_made (((decW w d).alloc (.cells #[.int .i64 0, .int .i64 0, .slice none 0 0, .int .i64 0, .int .i64 0, .int .i64 0] 59)).drewN nq) Tryz.prog 5 asIs
    rw [show (((decW w d).alloc (.cells #[.int .i64 0, .int .i64 0, .slice none 0 0, .int .i64 0, .int .i64 0, .int .i64 0] 59)).drewN nq).heap.size = w.heap.size + 1 + 1 + 1 by simp] at h
    exact h
  go_enter Tryz.func31, Tryz.ntmps31
  go_wp2_with fail
  go_quiet (fail)
  go_wp2_with (refine Kit.wpList_insert_own _ rfl (.tmp 30) _ _ _ rfl 5 3 keyedU8 (by kernel_rfl) _ (w.heap.size + 1 + 1 + 1) 0 _ rfl (H0.out nq) (by unfold maxLen; omega) (.int .u8 1) _ (.int .u8 1) rfl rfl (keyOf_int_mk Tryz.underlying5 (by decide)) _ [] rfl ?_)
  intro w1 hown1 hg1
  have H1 := Lib.hid hown1
  clear hown1
  go_wp2_with (refine Kit.wpList_insert_own _ rfl (.tmp 30) _ _ _ rfl 5 3 keyedU8 (by kernel_rfl) _ (w.heap.size + 1 + 1 + 1) 1 _ rfl H1.out (by unfold maxLen; omega) (.int .u8 2) _ (.int .u8 2) rfl rfl (keyOf_int_mk Tryz.underlying5 (by decide)) _ [] rfl ?_)
  intro w2 hown2 hg2
  have hlk := two_look (Cs.byt d.data.toList 0 : Int) w2 (w.heap.size + 1 + 1 + 1) 2 hown2 hwk
  have hgg := hg1.trans hg2
  have hD : DecAt w d w2 := DecAt.start w d nq (((Below.refl _ _).alloc (by simp) _).grown hgg (by simp) (fun q hq => by cases hq; exact Nat.le_refl _))
  clear hown2 hgg hg1 hg2 H0 H1 hwk
  rw [if_pos (by omega)] at hlk
  clear h0
  have d6 : ((Cs.byt d.data.toList 1 : Int) != 6) = false := by rw [bne_eq_false_iff_eq]; omega
  have h6s : 6 ≤ d.size := by omega
  clear h6
  have r0 := hD.res 0 _ rfl
  have n0 := hD.non 0 _ rfl
  have f0 := hD.free 0
  have r1 := hD.res 1 _ rfl
  have n1 := hD.non 1 _ rfl
  have f1 := hD.free 1
  have r2 := hD.res 2 _ rfl
  have n2 := hD.non 2 _ rfl
  have f2 := hD.free 2
  have r3 := hD.res 3 _ rfl
  have n3 := hD.non 3 _ rfl
  have f3 := hD.free 3
  have r4 := hD.res 4 _ rfl
  have n4 := hD.non 4 _ rfl
  have f4 := hD.free 4
  have r5 := hD.res 5 _ rfl
  have n5 := hD.non 5 _ rfl
  have f5 := hD.free 5
  have hstr := hD.str
  have HD := Lib.hid hD
  clear hD
  have CN1 := Lib.hid (number_any d 4 2 4 2 rfl rfl w.heap.size w2 (by unfold Pm.Sz; omega) (by omega) (by omega) (by omega) hstr)
  go_wp2_with fail
  refine CN1.out.mono ?_
  rintro e wn ⟨rfl, rfl⟩
  go_wp2_with fail
  have hf := dec_fin w d _ HD.out.below (.int .i64 0) (.int .i64 (Pm.at_ d.data.toList 4 2 : Int)) (.slice none 0 0) (.int .i64 0) (.int .i64 0) (.int .i64 0)
  exact bodyPost_ret (dec_results _ _ (w.heap.size + 1) [.int .i64 0, .int .i64 (Pm.at_ d.data.toList 4 2 : Int), .slice none 0 0, .int .i64 0, .int .i64 0, .int .i64 0] (.int .i64 6) (.int .i64 0) rfl rfl rfl rfl hf.1) rfl ⟨rfl, hf.2⟩
end Go.Proofs.YtlcdhlfkffkifaaGreatDoor

/-
  The program's decode of a map: the second kind.
-/
namespace Go.Proofs.YtlcdhlfkffkifaaGreatDoor
open Go.RowKit Go.Maps

set_option maxHeartbeats 6400000 in
set_option maxRecDepth 100000 in
/-- partitionmap.decode: the second kind, no identifier. -/
theorem decode_two_err (d : ByteArray) (w : World) (m : Int) (hM : w.cell? ⟨0, 0, none⟩ = some (.int .i64 m)) (h2 : 2 ≤ d.size) (h1 : Cs.byt d.data.toList 1 ≤ d.size) (h0 : Cs.byt d.data.toList 0 = 2) (h6 : Cs.byt d.data.toList 1 = 64) (he : (Cs.pentR ((d.data.toList.drop 4).take 32)).2 ≠ 0) (hs : d.size ≤ 4096) :
    Calls Tryz.prog 31 #[.string d] w fun e w' => e = .returned (badV 10) ∧ Below w.heap.size w w' := by
  have hi1 : 1 < d.size := by omega
  have hi0 : 0 < d.size := by omega
  have hy0 := Kit.byt_get d 0 hi0
  have hy1 := Kit.byt_get d 1 hi1
  have hl0 := Cs.byt_lt d.data.toList 0
  have hl1 := Cs.byt_lt d.data.toList 1
  have hw1 := IntWalk.wrap64_in (Cs.byt d.data.toList 1 : Int) (by omega)
  have d2 : decide ((d.size : Int) < 2) = false := decide_eq_false (by omega)
  have d3 : decide ((d.size : Int) < (Cs.byt d.data.toList 1 : Int)) = false := decide_eq_false (by omega)
  have hwk : (Lit.int .u8 (Cs.byt d.data.toList 0 : Int)).wf = true := by
    show (decide (IntKind.min .u8 ≤ (Cs.byt d.data.toList 0 : Int)) && decide ((Cs.byt d.data.toList 0 : Int) ≤ IntKind.max .u8)) = true
    rw [show IntKind.min .u8 = 0 from rfl, show IntKind.max .u8 = 255 from rfl, Bool.and_eq_true, decide_eq_true_eq, decide_eq_true_eq]
    omega
  have hmm := @run_makeMap Tryz.prog
  have H0 : Hid (∀ nq, BMap ((((decW w d).alloc (.cells #[.int .i64 0, .int .i64 0, .slice none 0 0, .int .i64 0, .int .i64 0, .int .i64 0] 59)).drewN nq).alloc (.map #[] 0)) (w.heap.size + 1 + 1 + 1) 0 (.map [])) := Lib.hid fun nq => by
    have h := World.ownsMap_made (((decW w d).alloc (.cells #[.int .i64 0, .int .i64 0, .slice none 0 0, .int .i64 0, .int .i64 0, .int .i64 0] 59)).drewN nq) Tryz.prog 5 asIs
    rw [show (((decW w d).alloc (.cells #[.int .i64 0, .int .i64 0, .slice none 0 0, .int .i64 0, .int .i64 0, .int .i64 0] 59)).drewN nq).heap.size = w.heap.size + 1 + 1 + 1 by simp] at h
    exact h
  go_enter Tryz.func31, Tryz.ntmps31
  go_wp2_with fail
  go_quiet (fail)
  go_wp2_with (refine Kit.wpList_insert_own _ rfl (.tmp 30) _ _ _ rfl 5 3 keyedU8 (by kernel_rfl) _ (w.heap.size + 1 + 1 + 1) 0 _ rfl (H0.out nq) (by unfold maxLen; omega) (.int .u8 1) _ (.int .u8 1) rfl rfl (keyOf_int_mk Tryz.underlying5 (by decide)) _ [] rfl ?_)
  intro w1 hown1 hg1
  have H1 := Lib.hid hown1
  clear hown1
  go_wp2_with (refine Kit.wpList_insert_own _ rfl (.tmp 30) _ _ _ rfl 5 3 keyedU8 (by kernel_rfl) _ (w.heap.size + 1 + 1 + 1) 1 _ rfl H1.out (by unfold maxLen; omega) (.int .u8 2) _ (.int .u8 2) rfl rfl (keyOf_int_mk Tryz.underlying5 (by decide)) _ [] rfl ?_)
  intro w2 hown2 hg2
  have hlk := two_look (Cs.byt d.data.toList 0 : Int) w2 (w.heap.size + 1 + 1 + 1) 2 hown2 hwk
  have hgg := hg1.trans hg2
  have hD : DecAt w d w2 := DecAt.start w d nq (((Below.refl _ _).alloc (by simp) _).grown hgg (by simp) (fun q hq => by cases hq; exact Nat.le_refl _))
  clear hown2 hgg hg1 hg2 H0 H1 hwk
  rw [if_neg (by omega), if_pos (by omega)] at hlk
  clear h0
  have d6 : ((Cs.byt d.data.toList 1 : Int) != 64) = false := by rw [bne_eq_false_iff_eq]; omega
  have h64s : 64 ≤ d.size := by omega
  clear h6
  have hbw2 : Below w.heap.size w w2 := (((Below.refl _ w).alloc (Nat.le_refl _) _).alloc (by simp) _).trans (hD.below.mono (by omega))
  have hM2 := (hbw2.cell (p := ⟨0, 0, none⟩) (World.block_lt_of_cell? _ _ hM)).trans hM
  have cp := pent_any (d.extract 4 36) w2 m hM2 (by simp <;> omega)
  rw [show (d.extract 4 36).data.toList = (d.data.toList.drop 4).take 32 by rw [Lib.extract_data]] at cp
  generalize Cs.pentR ((d.data.toList.drop 4).take 32) = P at *
  obtain ⟨⟨P1, P2⟩, P3⟩ := P
  simp only [] at *
  have CP := Lib.hid cp
  have hstr := hD.str
  have HD2 := Lib.hid hD
  clear cp hM hM2 hD hbw2
  go_wp2_with fail
  refine CP.out.mono ?_
  rintro e w3 ⟨rfl, hb3⟩
  have hD := HD2.out.later hb3
  clear hstr hlk CP
  have d7 : (P3 != 0) = true := by rw [bne_iff_ne]; exact he
  have r0 := hD.res 0 _ rfl
  have n0 := hD.non 0 _ rfl
  have f0 := hD.free 0
  have r1 := hD.res 1 _ rfl
  have n1 := hD.non 1 _ rfl
  have f1 := hD.free 1
  have r2 := hD.res 2 _ rfl
  have n2 := hD.non 2 _ rfl
  have f2 := hD.free 2
  have r3 := hD.res 3 _ rfl
  have n3 := hD.non 3 _ rfl
  have f3 := hD.free 3
  have r4 := hD.res 4 _ rfl
  have n4 := hD.non 4 _ rfl
  have f4 := hD.free 4
  have r5 := hD.res 5 _ rfl
  have n5 := hD.non 5 _ rfl
  have f5 := hD.free 5
  have hstr := hD.str
  have HD := Lib.hid hD
  clear hD hb3
  go_wp2_with fail
  have hf := dec_fin w d _ HD.out.below (.int .i64 0) (.int .i64 0) (.slice none 0 0) (.int .i64 0) (.int .i64 0) (.int .i64 0)
  exact bodyPost_ret (dec_results _ _ (w.heap.size + 1) [.int .i64 0, .int .i64 0, .slice none 0 0, .int .i64 0, .int .i64 0, .int .i64 0] (.int .i64 0) (.int .i64 10) rfl rfl rfl rfl hf.1) rfl ⟨rfl, hf.2⟩
end Go.Proofs.YtlcdhlfkffkifaaGreatDoor

/-
  What the range over the identifiers leans on: the cells of the map under way, the step of the range.
-/
namespace Go.Proofs.YtlcdhlfkffkifaaGreatDoor
open Go.RowKit Go.Maps
/-- The cells of the map under way: its kind, its number. -/
structure XAt (W : World) (g : Nat) (kk nm : Int) : Prop where
  cells : ∀ (j : Nat) v, (#[.int .i64 kk, .int .i64 nm, .slice none 0 0, .int .i64 0, .int .i64 0, .int .i64 0] : Array Value)[j]? = some v → W.cell? ⟨g, j, none⟩ = some v
  free : ∀ (j : Nat), W.frozen? ⟨g, j, none⟩ = false
  lt : g < W.heap.size
theorem XAt.grown {W W' : World} {g : Nat} {kk nm : Int} {row : Option Nat} (h : XAt W g kk nm) (hg : W.grownBy W' row) (hne : some g ≠ row) : XAt W' g kk nm :=
  ⟨fun j v hv => hg.cell (h.cells j v hv) hne, fun j => (World.frozen?_of_block (hg.block g h.lt hne)).trans (h.free j), Nat.lt_of_lt_of_le h.lt hg.size⟩
theorem XAt.below {W W' : World} {g : Nat} {kk nm : Int} (h : XAt W g kk nm) (hb : Below W.heap.size W W') : XAt W' g kk nm := h.grown (Kit.grown_of_below hb) (by simp)
theorem XAt.new (W : World) (nm : Int) (T : TypeId) : XAt (W.alloc (.cells #[.int .i64 0, .int .i64 nm, .slice none 0 0, .int .i64 0, .int .i64 0, .int .i64 0] T)) W.heap.size 0 nm := by
  refine ⟨fun j v hv => ?_, fun j => ?_, by simp⟩
  · rw [World.cell?_alloc_at _ _ _ _ (by simp)]
    simpa using hv
  · have := World.frozen?_alloc_mark W #[.int .i64 0, .int .i64 nm, .slice none 0 0, .int .i64 0, .int .i64 0, .int .i64 0] T 0 0 j
    rw [this]
    simp
theorem XAt.set {W : World} {g : Nat} {kk nm : Int} (h : XAt W g kk nm) (k : Int) : XAt (W.setCell ⟨g, 0, none⟩ (.int .i64 k)) g k nm := by
  refine ⟨fun j v hv => ?_, fun j => by rw [World.frozen?_setCell]; exact h.free j, by have := h.lt; simpa using this⟩
  rcases j with _ | j
  · have h0 := h.cells 0 _ rfl
    have hv' : Value.int .i64 k = v := by simpa using hv
    rw [World.cell?_setCell_same _ _ _ h0, hv']
  · rw [World.cell?_setCell_other _ _ _ _ (by simp)]
    refine h.cells (j + 1) v ?_
    simpa using hv

def nameK (x : Int) : List UInt8 := if x = 1 then Pm.nameV else if x = 2 then Pm.nameS else Pm.nameM
/-- What the step of a range over the identifiers hands out. -/
theorem idD_step {x : Int} {c : ByteArray} (hat : ∀ zd, idD.atKey (.int .i64 x) zd = .lit (.string c.data.toList)) : (x = 1 ∨ x = 2 ∨ x = 3) ∧ c.data.toList = nameK x := by
  have e : idD = .map [(.int .i64 1, .lit (.string Pm.nameV)), (.int .i64 2, .lit (.string Pm.nameS)), (.int .i64 3, .lit (.string Pm.nameM))] := rfl
  rw [e] at hat
  by_cases h1 : x = 1
  · subst h1
    have h : (DataW.lit (.string Pm.nameV) : DataW Unit) = .lit (.string c.data.toList) := hat .nil
    simp only [DataW.lit.injEq, Lit.string.injEq] at h
    exact ⟨Or.inl rfl, h.symm⟩
  · by_cases h2 : x = 2
    · subst h2
      have h : (DataW.lit (.string Pm.nameS) : DataW Unit) = .lit (.string c.data.toList) := hat .nil
      simp only [DataW.lit.injEq, Lit.string.injEq] at h
      exact ⟨Or.inr (Or.inl rfl), h.symm⟩
    · by_cases h3 : x = 3
      · subst h3
        have h : (DataW.lit (.string Pm.nameM) : DataW Unit) = .lit (.string c.data.toList) := hat .nil
        simp only [DataW.lit.injEq, Lit.string.injEq] at h
        exact ⟨Or.inr (Or.inr rfl), h.symm⟩
      · have h := hat .nil
        simp [DataW.atKey, List.find?, Lit.sameKey, Ne.symm h1, Ne.symm h2, Ne.symm h3] at h
theorem kindOf_name {x : Int} {s : List UInt8} (hx : x = 1 ∨ x = 2 ∨ x = 3) : nameK x = s ↔ Pm.kindOf s = x := by
  have n12 : Pm.nameV ≠ Pm.nameS := by decide
  have n13 : Pm.nameV ≠ Pm.nameM := by decide
  have n23 : Pm.nameS ≠ Pm.nameM := by decide
  unfold Pm.kindOf nameK
  rcases hx with rfl | rfl | rfl
  · rw [if_pos rfl]
    constructor
    · rintro rfl; rw [if_pos rfl]
    · intro h
      by_cases h1 : s = Pm.nameV
      · exact h1.symm
      · rw [if_neg h1] at h
        split at h
        · cases h
        · split at h <;> cases h
  · rw [if_neg (by decide), if_pos rfl]
    constructor
    · rintro rfl; rw [if_neg (Ne.symm n12), if_pos rfl]
    · intro h
      by_cases h1 : s = Pm.nameV
      · rw [if_pos h1] at h; cases h
      · rw [if_neg h1] at h
        by_cases h2 : s = Pm.nameS
        · exact h2.symm
        · rw [if_neg h2] at h
          split at h <;> cases h
  · rw [if_neg (by decide), if_neg (by decide)]
    constructor
    · rintro rfl; rw [if_neg (Ne.symm n13), if_neg (Ne.symm n23), if_pos rfl]
    · intro h
      by_cases h1 : s = Pm.nameV
      · rw [if_pos h1] at h; cases h
      · rw [if_neg h1] at h
        by_cases h2 : s = Pm.nameS
        · rw [if_pos h2] at h; cases h
        · rw [if_neg h2] at h
          by_cases h3 : s = Pm.nameM
          · exact h3.symm
          · rw [if_neg h3] at h; cases h
end Go.Proofs.YtlcdhlfkffkifaaGreatDoor
