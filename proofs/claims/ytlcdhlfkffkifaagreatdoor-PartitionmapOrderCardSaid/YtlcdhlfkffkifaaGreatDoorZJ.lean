/-
  The walks through the program's Kind: its two small functions, IndexFunc and ContainsFunc over maps asked for another number.
-/
import Derived.Test.YtlcdhlfkffkifaaGreatDoorZB
import Derived.Test.YtlcdhlfkffkifaaGreatDoorZC
import Derived.Maps.RangeWalk
namespace Go.Proofs.YtlcdhlfkffkifaaGreatDoor
open Go.RowKit
namespace Pm
def isNum (nm : Int) (x : M) : Bool := decide (x.number = nm)
/-- A captured slice of maps, of which the first one has a number. -/
def Cap (w : World) (g : Nat) (nm : Int) : Prop := ∃ b o n c, 0 < n ∧ w.cell? ⟨g, 0, Option.none⟩ = some (.slice (some ⟨b, o, Option.none⟩) n c) ∧ w.cell? ⟨b, o + 1, Option.none⟩ = some (.int .i64 nm)
theorem Cap.below {w w' : World} {g : Nat} {nm : Int} (h : Cap w g nm) (hb : Below w.heap.size w w') : Cap w' g nm := by
  obtain ⟨b, o, n, c, h0, h1, h2⟩ := h
  exact ⟨b, o, n, c, h0, (hb.cell (World.block_lt_of_cell? _ _ h1)).trans h1, (hb.cell (World.block_lt_of_cell? _ _ h2)).trans h2⟩
end Pm

set_option maxHeartbeats 1600000 in
set_option maxRecDepth 100000 in
/-- partitionmap.Kind$2. -/
theorem kindIs_any (x : Pm.M) (tv : Value) (k : Int) (w : World) (hr : Kit.RowS w tv (Kit.izs x.tables)) :
    Calls Tryz.prog 39 #[Pm.pmV x tv, .int .i64 k] w fun e w' => e = .returned (.bool (decide (x.kind = k))) ∧ Below w.heap.size w w' := by
  unfold Pm.pmV at *
  obtain ⟨⟨A, c, rfl, _, _, _⟩, _⟩ := hr
  obtain ⟨k', n, t, f, m, b⟩ := x
  simp only [] at *
  go_enter Tryz.func39, Tryz.ntmps39
  go_wp2_with fail
  go_ret
  exact ⟨rfl, (Below.refl _ w).alloc (Nat.le_refl _) _⟩

set_option maxHeartbeats 1600000 in
set_option maxRecDepth 100000 in
/-- partitionmap.Kind$1. -/
theorem notNum_any (x : Pm.M) (tv : Value) (g : Nat) (nm : Int) (w : World) (hr : Kit.RowS w tv (Kit.izs x.tables)) (hg : Pm.Cap w g nm) :
    Calls Tryz.prog 37 #[Pm.pmV x tv, .pointer (some ⟨g, 0, none⟩)] w fun e w' => e = .returned (.bool (!Pm.isNum nm x)) ∧ Below w.heap.size w w' := by
  unfold Pm.pmV Pm.isNum at *
  obtain ⟨⟨A, c, rfl, _, _, _⟩, _⟩ := hr
  obtain ⟨k', n, t, f, m, b⟩ := x
  simp only [] at *
  have hba := fun (o : Obj) => (Below.refl w.heap.size w).alloc (Nat.le_refl _) o
  obtain ⟨b', o', n', c', h0, h1, h2⟩ := hg
  have g1 := fun (o : Obj) => ((hba o).cell (World.block_lt_of_cell? _ _ h1)).trans h1
  have g2 := fun (o : Obj) => ((hba o).cell (World.block_lt_of_cell? _ _ h2)).trans h2
  clear hba h1 h2
  by_cases hq : n = nm
  · have hd : decide (n = nm) = true := decide_eq_true hq
    rw [hd]
    go_enter Tryz.func37, Tryz.ntmps37
    go_wp2_with fail
    go_quiet (fail)
    go_wp2_with fail
    go_ret
    first | exact ⟨rfl, Kit.Below.drewN ((Below.refl _ w).alloc (Nat.le_refl _) _) _⟩ | (refine ⟨congrArg (fun q => Ending.returned (.bool q)) ?_, Kit.Below.drewN ((Below.refl _ w).alloc (Nat.le_refl _) _) _⟩; simp [bne, hq])
  · have hd : decide (n = nm) = false := decide_eq_false hq
    rw [hd]
    go_enter Tryz.func37, Tryz.ntmps37
    go_wp2_with fail
    go_quiet (fail)
    go_wp2_with fail
    go_ret
    first | exact ⟨rfl, Kit.Below.drewN ((Below.refl _ w).alloc (Nat.le_refl _) _) _⟩ | (refine ⟨congrArg (fun q => Ending.returned (.bool q)) ?_, Kit.Below.drewN ((Below.refl _ w).alloc (Nat.le_refl _) _) _⟩; simp [bne, hq])

set_option maxHeartbeats 1600000 in
set_option maxRecDepth 100000 in
/-- slices.IndexFunc over maps, asked for another number. -/
theorem indexNum_any (v : Value) (l : List Pm.M) (T : Nat → Value) (g : Nat) (nm : Int) (w : World) (hm : Pm.MapsAt w v l T) (hf : Pm.Few l) (hg : 0 < l.length → Pm.Cap w g nm) :
    Calls Tryz.prog 64 #[v, .func (.func 37) #[] #[.pointer (some ⟨g, 0, none⟩)]] w fun e w' => ∃ r : Int, e = .returned (.int .i64 r) ∧ -1 ≤ r ∧ (0 ≤ r ↔ l.all (Pm.isNum nm) = false) ∧ Below w.heap.size w w' := by
  have HM := Lib.hid hm
  have HG := Lib.hid hg
  have hl8 := hf.1
  obtain ⟨A, c, rfl, hlc, hcm, hcells⟩ := hm.row
  have HCE := Lib.hid hcells
  clear hcells hm hf hg
  unfold maxLen at hcm
  go_enter Tryz.func64, Tryz.ntmps64
  go_wp2_with fail
  go_loopw [5, 8] (fun _ iv wr => ∃ j : Nat, j ≤ l.length ∧ iv = .int .i64 j ∧ Hid ((l.take j).all (Pm.isNum nm) = true) ∧ Below w.heap.size w wr) (fun _ iv _ => l.length - (intOf iv).toNat)
  case atStart => exact ⟨0, by omega, rfl, Lib.hid rfl, Below.refl _ _⟩
  case round =>
    obtain ⟨j, hj, rfl, HA, hbw⟩ := hrel
    by_cases hlt : j < l.length
    · obtain ⟨b, o, rfl, hbl, hc⟩ := HCE.out (by omega)
      obtain ⟨c0, c1, c2, c3, c4, c5⟩ := Pm.six hbl hbw (hc j hlt)
      have hr := (HM.out.tabs j hlt).below hbw
      have CP := Lib.hid (fun W h => notNum_any (l.getD j Pm.none) (T j) g nm W h)
      have HGr := Lib.hid ((HG.out (by omega)).below hbw)
      have hall := all_snocM (p := (Pm.isNum nm)) hlt HA.out
      have hfail := all_failM (p := (Pm.isNum nm)) hlt
      clear hc
      generalize l.getD j Pm.none = x at *
      generalize T j = tv at *
      have HRT := Lib.hid hr
      obtain ⟨⟨A', c', rfl, _, _, _⟩, _⟩ := hr
      unfold Pm.pmV at CP
      cases hp : (Pm.isNum nm) x with
      | true =>
        have HN := Lib.hid (hall hp)
        rw [hp] at CP
        clear hp hall hfail
        obtain ⟨k, n, t, f, m, bb⟩ := x
        simp only [] at *
        go_wp2_with fail
        with_reducible refine (CP.out _ HRT.out HGr.out).mono ?_
        rintro e w2 ⟨rfl, hb2⟩
        go_wp2_with fail
        go_roundw
        case rel => exact ⟨j + 1, by omega, by go_num, HN, hbw.trans (hb2.mono hbw.size)⟩
        case measure => simp [intOf]; omega
      | false =>
        have HN := Lib.hid (hfail hp)
        rw [hp] at CP
        clear hp hall hfail
        obtain ⟨k, n, t, f, m, bb⟩ := x
        simp only [] at *
        go_wp2_with fail
        with_reducible refine (CP.out _ HRT.out HGr.out).mono ?_
        rintro e w2 ⟨rfl, hb2⟩
        go_wp2_with fail
        go_ret
        exact ⟨_, rfl, by omega, ⟨fun _ => HN.out, fun _ => by omega⟩, hbw.trans (hb2.mono hbw.size)⟩
    · obtain rfl : j = l.length := by omega
      have ha := HA.out
      rw [List.take_length] at ha
      have HH := Lib.hid ha
      clear ha
      go_wp2_with fail
      go_ret
      exact ⟨_, rfl, by decide, ⟨fun h => absurd h (by decide), fun h => by rw [HH.out] at h; cases h⟩, hbw⟩

set_option maxHeartbeats 1600000 in
set_option maxRecDepth 100000 in
/-- slices.ContainsFunc over maps, asked for another number. -/
theorem containsNum_any (v : Value) (l : List Pm.M) (T : Nat → Value) (g : Nat) (nm : Int) (w : World) (hm : Pm.MapsAt w v l T) (hf : Pm.Few l) (hg : 0 < l.length → Pm.Cap w g nm) :
    Calls Tryz.prog 36 #[v, .func (.func 37) #[] #[.pointer (some ⟨g, 0, none⟩)]] w fun e w' => e = .returned (.bool (!l.all (Pm.isNum nm))) ∧ Below w.heap.size w w' := by
  have CI := Lib.hid (indexNum_any v l T g nm w hm hf hg)
  obtain ⟨A, c, rfl, _, _, _⟩ := hm.row
  clear hm hf hg
  cases hp : l.all (Pm.isNum nm) with
  | true =>
    rw [hp] at CI
    go_enter Tryz.func36, Tryz.ntmps36
    go_wp2_with fail
    with_reducible refine CI.out.mono ?_
    rintro e w2 ⟨r, rfl, hr, hi, hb2⟩
    have hr0 : r < 0 := by
      rcases Int.lt_or_le r 0 with h | h
      · exact h
      · have := hi.1 h; cases this
    clear hi
    go_wp2_with fail
    go_ret
    first | exact ⟨rfl, hb2⟩ | (refine ⟨congrArg (fun b => Ending.returned (.bool b)) ?_, hb2⟩; simp <;> omega)
  | false =>
    rw [hp] at CI
    go_enter Tryz.func36, Tryz.ntmps36
    go_wp2_with fail
    with_reducible refine CI.out.mono ?_
    rintro e w2 ⟨r, rfl, hr, hi, hb2⟩
    have hr0 : 0 ≤ r := hi.2 (by first | rfl | trivial)
    clear hi
    go_wp2_with fail
    go_ret
    first | exact ⟨rfl, hb2⟩ | (refine ⟨congrArg (fun b => Ending.returned (.bool b)) ?_, hb2⟩; simp <;> omega)

end Go.Proofs.YtlcdhlfkffkifaaGreatDoor

/-
  The walk through slices.EqualFunc of maps and kinds.
-/
namespace Go.Proofs.YtlcdhlfkffkifaaGreatDoor
open Go.RowKit

set_option maxHeartbeats 1600000 in
set_option maxRecDepth 100000 in
/-- slices.EqualFunc of maps and kinds. -/
theorem equalFn_any (v : Value) (l : List Pm.M) (T : Nat → Value) (kv : Value) (ks : List Int) (w : World) (hm : Pm.MapsAt w v l T) (hf : Pm.Few l) (hk : Kit.Row w kv (Kit.izs ks)) :
    Calls Tryz.prog 38 #[v, kv, .func (.func 39) #[] #[]] w fun e w' => e = .returned (.bool (decide (l.map Pm.M.kind = ks))) ∧ Below w.heap.size w w' := by
  have HM := Lib.hid hm
  have HK := Lib.hid hk
  have hl8 := hf.1
  obtain ⟨A, c, rfl, hlc, hcm, hcells⟩ := hm.row
  obtain ⟨A', c', rfl, hlc', hcm', _⟩ := hk
  rw [Kit.izs_length] at *
  have HCE := Lib.hid hcells
  clear hcells hm hf
  unfold maxLen at hcm hcm'
  by_cases hlen : l.length = ks.length
  · have HR := Lib.hid (show (∀ q : Bool, decide (l.map Pm.M.kind = ks) = q → decide (l.map Pm.M.kind = ks) = q) from fun _ h => h)
    have HS := Lib.hid (show (∀ j, j < l.length → ¬ (l.getD j Pm.none).kind = ks.getD j 0 → decide (l.map Pm.M.kind = ks) = false) from fun j hj hne => decide_eq_false fun e => hne (by rw [← e]; simp [List.getD, hj]))
    have HT := Lib.hid (show (l.map Pm.M.kind).take l.length = ks.take l.length → decide (l.map Pm.M.kind = ks) = true from fun h => decide_eq_true (by rwa [List.take_of_length_le (by simp), List.take_of_length_le (by omega)] at h))
    have HU := Lib.hid (show ∀ j, j < l.length → (l.getD j Pm.none).kind = ks.getD j 0 → (l.map Pm.M.kind).take j = ks.take j → (l.map Pm.M.kind).take (j + 1) = ks.take (j + 1) from fun j hj he ht => by
      rw [List.take_succ_eq_append_getElem (by simpa using hj), List.take_succ_eq_append_getElem (by omega), ht]
      have hj' : j < ks.length := by omega
      simp [List.getD, hj, hj'] at he
      simp [he])
    clear HR
    generalize decide (l.map Pm.M.kind = ks) = R at *
    go_enter Tryz.func38, Tryz.ntmps38
    go_wp2_with fail
    go_loopw [7, 8, 9, 17] (fun _ _ _ iv wr => ∃ j : Nat, j ≤ l.length ∧ iv = .int .i64 j ∧ Hid ((l.map Pm.M.kind).take j = ks.take j) ∧ Below w.heap.size w wr) (fun _ _ _ iv _ => l.length - (intOf iv).toNat)
    case atStart => exact ⟨0, by omega, rfl, Lib.hid rfl, Below.refl _ _⟩
    case round =>
      obtain ⟨j, hj, rfl, HA, hbw⟩ := hrel
      by_cases hlt : j < l.length
      · obtain ⟨b, o, rfl, hbl, hc⟩ := HCE.out (by omega)
        obtain ⟨c0, c1, c2, c3, c4, c5⟩ := Pm.six hbl hbw (hc j hlt)
        have hr := (HM.out.tabs j hlt).below hbw
        have hltk : j < ks.length := by omega
        obtain ⟨b', o', c'', hv', hbk, hcj⟩ := HK.out.at_izs hltk
        obtain ⟨rfl, _, rfl⟩ : A' = some ⟨b', o', none⟩ ∧ ks.length = ks.length ∧ c' = c'' := by simpa using hv'
        clear hv'
        have hba := fun (o : Obj) => hbw.trans (((Below.refl wr.heap.size wr).alloc (Nat.le_refl _) o).mono hbw.size)
        have k0 := fun (o : Obj) => ((hba o).cell (p := ⟨b', o' + j, none⟩) hbk).trans hcj
        have CP := Lib.hid (fun W h => kindIs_any (l.getD j Pm.none) (T j) (ks.getD j 0) W h)
        have HS1 := Lib.hid (HS.out j hlt)
        have HU1 := Lib.hid (fun h => HU.out j hlt h HA.out)
        clear hc hcj
        generalize ks.getD j 0 = kk at *
        generalize l.getD j Pm.none = x at *
        generalize T j = tv at *
        have HRT := Lib.hid fun (o : Obj) => hr.below ((Below.refl wr.heap.size wr).alloc (Nat.le_refl _) o)
        obtain ⟨⟨A2, c2', rfl, _, _, _⟩, _⟩ := hr
        unfold Pm.pmV at CP
        obtain ⟨k, n, t, f, m, bb⟩ := x
        simp only [] at *
        by_cases hq : k = kk
        · have HN := Lib.hid (HU1.out hq)
          have hd : decide (k = kk) = true := decide_eq_true hq
          rw [hd] at CP
          clear hq hd HS1 HU1
          go_wp2_with fail
          with_reducible refine (CP.out _ (HRT.out _)).mono ?_
          rintro e w2 ⟨rfl, hb2⟩
          go_wp2_with fail
          go_roundw
          case rel => exact ⟨j + 1, by omega, by go_num, HN, (hba _).trans (hb2.mono (hba _).size)⟩
          case measure => simp [intOf]; omega
        · have HN := Lib.hid (HS1.out hq)
          have hd : decide (k = kk) = false := decide_eq_false hq
          rw [hd] at CP
          clear hq hd HS1 HU1
          go_wp2_with fail
          with_reducible refine (CP.out _ (HRT.out _)).mono ?_
          rintro e w2 ⟨rfl, hb2⟩
          go_wp2_with fail
          go_ret
          rw [HN.out]
          exact ⟨rfl, (hba _).trans (hb2.mono (hba _).size)⟩
      · obtain rfl : j = l.length := by omega
        have HN := Lib.hid (HT.out HA.out)
        go_wp2_with fail
        go_ret
        rw [HN.out]
        exact ⟨rfl, hbw⟩
  · have HR := Lib.hid (show decide (l.map Pm.M.kind = ks) = false from decide_eq_false fun e => hlen (by rw [← e]; simp))
    have hne : ((l.length : Int) != (ks.length : Int)) = true := by rw [bne_iff_ne]; omega
    generalize decide (l.map Pm.M.kind = ks) = R at *
    go_enter Tryz.func38, Tryz.ntmps38
    go_wp2_with fail
    go_ret
    rw [HR.out]
    exact ⟨rfl, Below.refl _ _⟩
end Go.Proofs.YtlcdhlfkffkifaaGreatDoor

/-
  The walk through the program's Kind.
-/
namespace Go.Proofs.YtlcdhlfkffkifaaGreatDoor
open Go.RowKit Go.Maps
namespace Pm
/-- The kinds of the maps of a volume's kind. -/
def kindL (k : Int) : List Int := if k = 0 then [0] else if k = 1 then [0, 1] else if k = 2 then [2] else if k = 3 then [0, 3] else []
def kindK (ks : List Int) : Int := if ks = [0] then 0 else if ks = [0, 1] then 1 else if ks = [2] then 2 else if ks = [0, 3] then 3 else -1
/-- Kind. -/
def kindR (l : List M) : Int := if all l = true ∧ l.all (isNum (l.getD 0 Pm.none).number) = true then kindK (l.map M.kind) else -1
theorem kindK_hit {x : Int} {ks : List Int} (hx : x = 0 ∨ x = 1 ∨ x = 2 ∨ x = 3) (h : kindL x = ks) : kindK ks = x := by
  rcases hx with rfl | rfl | rfl | rfl <;> (subst h; rfl)
theorem kindK_miss {ks : List Int} (h0 : kindL 0 ≠ ks) (h1 : kindL 1 ≠ ks) (h2 : kindL 2 ≠ ks) (h3 : kindL 3 ≠ ks) : kindK ks = -1 := by
  unfold kindK
  rw [if_neg (fun e => h0 (by rw [e]; rfl)), if_neg (fun e => h1 (by rw [e]; rfl)), if_neg (fun e => h2 (by rw [e]; rfl)), if_neg (fun e => h3 (by rw [e]; rfl))]
end Pm
theorem asIs_inv (v : Value) (y : DataW Value × List MemPlace) (_ : asIs v = some y) : ∃ c : Value, v = id c := ⟨v, rfl⟩
theorem int_inv (key : Value) (kl : Lit) (h : keyOf Tryz.prog 3 key = some kl) : ∃ x : Int, key = Value.int .i64 x := by
  obtain ⟨x, rfl, _⟩ := Maps.keyOf_int_inv Tryz.underlying3 h
  exact ⟨x, rfl⟩
/-- What the step of a range over four hands out. -/
theorem four4_step {v0 v1 v2 v3 : Value} {x : Int} {c : Value} {kl : Lit} {y : DataW Value × List MemPlace} (hk : keyOf Tryz.prog 3 (.int .i64 x) = some kl) (hv : asIs (id c) = some y) (hat : ∀ zd, (four4 v0 v1 v2 v3).atKey kl zd = y.1) :
    kl = .int .i64 x ∧ (x = 0 ∧ c = v0 ∨ x = 1 ∧ c = v1 ∨ x = 2 ∧ c = v2 ∨ x = 3 ∧ c = v3) := by
  obtain ⟨x', ex, rfl, _⟩ := Maps.keyOf_int_inv Tryz.underlying3 hk
  obtain rfl : x = x' := by simpa using ex
  refine ⟨rfl, ?_⟩
  unfold asIs at hv
  simp only [id, Option.some.injEq] at hv
  subst hv
  have h1 := hat (.held (.bool true))
  have h2 := hat (.held (.bool false))
  rw [four4_at] at h1 h2
  simp only [DataW.held.injEq] at h1 h2
  by_cases g0 : x = 0
  · rw [if_pos g0] at h1; exact Or.inl ⟨g0, h1.symm⟩
  · rw [if_neg g0] at h1 h2
    by_cases g1 : x = 1
    · rw [if_pos g1] at h1; exact Or.inr (Or.inl ⟨g1, h1.symm⟩)
    · rw [if_neg g1] at h1 h2
      by_cases g2 : x = 2
      · rw [if_pos g2] at h1; exact Or.inr (Or.inr (Or.inl ⟨g2, h1.symm⟩))
      · rw [if_neg g2] at h1 h2
        by_cases g3 : x = 3
        · rw [if_pos g3] at h1; exact Or.inr (Or.inr (Or.inr ⟨g3, h1.symm⟩))
        · rw [if_neg g3] at h1 h2
          rw [← h1] at h2
          simp at h2
end Go.Proofs.YtlcdhlfkffkifaaGreatDoor

/-
  The walk through the program's Kind.
-/
namespace Go.Proofs.YtlcdhlfkffkifaaGreatDoor
open Go.RowKit Go.Maps

set_option maxHeartbeats 3200000 in
set_option maxRecDepth 100000 in
/-- partitionmap.Kind. -/
theorem kind_any (v : Value) (l : List Pm.M) (T : Nat → Value) (w : World) (hm : Pm.MapsAt w v l T) (hf : Pm.Few l) :
    Calls Tryz.prog 17 #[v] w fun e w' => e = .returned (.int .i64 (Pm.kindR l)) ∧ Below w.heap.size w w' := by
  have CA := Lib.hid (fun W h => all_any v l T W h hf)
  have CN := Lib.hid (fun W h hg => containsNum_any v l T w.heap.size (l.getD 0 Pm.none).number W h hf hg)
  have CE := Lib.hid (fun kv ks W h hk => equalFn_any v l T kv ks W h hf hk)
  have HM := Lib.hid hm
  obtain ⟨A, c, rfl, hlc, hcm, hcells⟩ := hm.row
  have hcap : 0 < l.length → ∀ o : Obj, True := fun _ _ => trivial
  clear hcap
  have hba := (Below.refl w.heap.size w).alloc (Nat.le_refl _) (.cells #[.slice A l.length c] 22)
  have hx0 : (w.alloc (.cells #[.slice A l.length c] 22)).cell? ⟨w.heap.size, 0, none⟩ = some (.slice A l.length c) := by
    rw [World.cell?_alloc_at _ _ _ _ (by simp)]
    simp
  have HCap : Hid (0 < l.length → Pm.Cap (w.alloc (.cells #[.slice A l.length c] 22)) w.heap.size (l.getD 0 Pm.none).number) := Lib.hid fun h0 => by
    obtain ⟨b, o, rfl, hbl, hc⟩ := hcells h0
    have := hc 0 h0 1 _ rfl
    rw [show o + 0 * 6 + 1 = o + 1 by omega] at this
    exact ⟨b, o, l.length, c, h0, hx0, (hba.cell (p := ⟨b, o + 1, none⟩) hbl).trans this⟩
  have HX0 := Lib.hid hx0
  have HBA := Lib.hid hba
  clear hcells hm hx0 hba
  cases ha : Pm.all l with
  | false =>
    have HR := Lib.hid (show Pm.kindR l = -1 by unfold Pm.kindR; rw [ha, if_neg (by simp)])
    rw [ha] at CA
    clear ha
    go_enter Tryz.func17, Tryz.ntmps17
    go_wp2_with fail
    with_reducible refine (CA.out _ (HM.out.below HBA.out)).mono ?_
    rintro e w2 ⟨rfl, hb2⟩
    go_wp2_with fail
    go_ret
    rw [HR.out]
    exact ⟨rfl, HBA.out.trans (hb2.mono HBA.out.size)⟩
  | true =>
    rw [ha] at CA
    cases hn : l.all (Pm.isNum (l.getD 0 Pm.none).number) with
    | false =>
      have HR := Lib.hid (show Pm.kindR l = -1 by unfold Pm.kindR; rw [hn, if_neg (by simp)])
      rw [hn] at CN
      clear ha hn
      go_enter Tryz.func17, Tryz.ntmps17
      go_wp2_with fail
      with_reducible refine (CA.out _ (HM.out.below HBA.out)).mono ?_
      rintro e w2 ⟨rfl, hb2⟩
      have x2 := (hb2.cell (p := ⟨w.heap.size, 0, none⟩) (by simp)).trans HX0.out
      have HB2 := Lib.hid hb2
      clear hb2
      go_wp2_with fail
      with_reducible refine (CN.out _ ((HM.out.below HBA.out).below HB2.out) (fun h => (HCap.out h).below HB2.out)).mono ?_
      rintro e w3 ⟨rfl, hb3⟩
      go_wp2_with fail
      go_ret
      rw [HR.out]
      exact ⟨rfl, HBA.out.trans ((HB2.out.trans (hb3.mono HB2.out.size)).mono HBA.out.size)⟩
    | true =>
      have HR := Lib.hid (show Pm.kindR l = Pm.kindK (l.map Pm.M.kind) by unfold Pm.kindR; rw [ha, hn, if_pos ⟨rfl, rfl⟩])
      rw [hn] at CN
      clear ha hn
      go_enter Tryz.func17, Tryz.ntmps17
      go_wp2_with fail
      with_reducible refine (CA.out _ (HM.out.below HBA.out)).mono ?_
      rintro e w2 ⟨rfl, hb2⟩
      have x2 := (hb2.cell (p := ⟨w.heap.size, 0, none⟩) (by simp)).trans HX0.out
      have HB2 := Lib.hid hb2
      clear hb2
      go_wp2_with fail
      with_reducible refine (CN.out _ ((HM.out.below HBA.out).below HB2.out) (fun h => (HCap.out h).below HB2.out)).mono ?_
      rintro e w3 ⟨rfl, hb3⟩
      have hlt0 : w.heap.size < (w.alloc (.cells #[.slice A l.length c] 22)).heap.size := by simp
      have hb13 := HB2.out.trans (hb3.mono HB2.out.size)
      have x3 := (hb13.cell (p := ⟨w.heap.size, 0, none⟩) hlt0).trans HX0.out
      have hbw3 := HBA.out.trans (hb13.mono HBA.out.size)
      have HM3 := Lib.hid (HM.out.below hbw3)
      clear x2 hb3 HB2 hb13 CA CN HCap HBA HM HX0
      go_wp2_with fail
      refine (kinds_any _).mono ?_
      rintro e w4 ⟨bm, b0, b1, b2, b3, rfl, hbm, g0, g1, g2, g3, hV, k0, k1, k2, k3, hb4⟩
      have hlt3 : w.heap.size < w3.heap.size := World.block_lt_of_cell? _ _ x3
      have x4 := (hb4.cell (p := ⟨w.heap.size, 0, none⟩) hlt3).trans x3
      have hbw4 := hbw3.trans (hb4.mono hbw3.size)
      have HM4 := Lib.hid (HM3.out.below hb4)
      have HK0 := Lib.hid (And.intro k0 (And.intro k1 (And.intro k2 k3)))
      clear x3 hbw3 HM3 k0 k1 k2 k3 g0 g1 g2 g3 hb4
      go_wp2_with (at_range; refine wpList_range_own _ rfl _ 66 rfl 3 32 keyedInt (by kernel_rfl) asIs bm 4 _ rfl hV ?_; intro w0 hrg0 hg0 hs0)
      go_frame
      have hrow : ∀ (x : Int) (c : Value), (x = 0 ∧ c = slV b0 1 ∨ x = 1 ∧ c = slV b1 2 ∨ x = 2 ∧ c = slV b2 1 ∨ x = 3 ∧ c = slV b3 2) → Kit.Row w4 c (Kit.izs (Pm.kindL x)) := by
        obtain ⟨k0, k1, k2, k3⟩ := HK0.out
        rintro x c (⟨rfl, rfl⟩ | ⟨rfl, rfl⟩ | ⟨rfl, rfl⟩ | ⟨rfl, rfl⟩)
        · exact k0.row (by unfold maxLen; simp)
        · exact k1.row (by unfold maxLen; simp)
        · exact k2.row (by unfold maxLen; simp)
        · exact k3.row (by unfold maxLen; simp)
      have HROW := Lib.hid hrow
      have hb0 : Below w4.heap.size w4 w0 := (Below.refl _ w4).grown hg0 (Nat.le_refl _) (fun j hj => by cases hj)
      have hlt4 : w.heap.size < w4.heap.size := World.block_lt_of_cell? _ _ x4
      have HX4 := Lib.hid x4
      clear x4 hV hrow HK0 hg0 hs0 hlt3
      have H0 := Lib.hid hb0
      clear hb0
      go_loopw [3, 4] (fun _ _ wr => ∃ left cnt, wr.ranges Tryz.prog 3 asIs bm w4.heap.size 4 (four4 (slV b0 1) (slV b1 2) (slV b2 1) (slV b3 2)) left cnt ∧ Hid (∀ k : Int, (k = 0 ∨ k = 1 ∨ k = 2 ∨ k = 3) → left (.int .i64 k) = false → Pm.kindL k ≠ l.map Pm.M.kind) ∧ Below w4.heap.size w4 wr) (fun _ _ wr => wr.rangeLeft bm w4.heap.size)
      case atStart =>
        refine ⟨_, _, hrg0, Lib.hid (fun k hk h => ?_), H0.out⟩
        exfalso
        rcases hk with rfl | rfl | rfl | rfl <;> exact absurd (show true = false from h) (by decide)
      case round =>
        obtain ⟨left, cnt, hrg, HN, hbr⟩ := hrel
        go_wp2_with (at_next; refine wpList_next_ranges _ rfl _ rfl 3 keyedInt asIs (Value.int .i64) id int_inv asIs_inv bm w4.heap.size 4 _ _ _ rfl hrg ?_ ?_)
        · intro hc0 hl0
          go_wp2_with fail
          go_ret
          rw [HR.out, Pm.kindK_miss (HN.out 0 (by simp) (hl0 _)) (HN.out 1 (by simp) (hl0 _)) (HN.out 2 (by simp) (hl0 _)) (HN.out 3 (by simp) (hl0 _))]
          exact ⟨rfl, hbw4.trans (hbr.mono hbw4.size)⟩
        · intro x c kl yd yp w1 cnt1 hkey hlk hv hat hrg1 hlt hg1 hs1 hen
          obtain ⟨rfl, hx⟩ := four4_step (y := (yd, yp)) hkey hv hat
          have hb1 : Below w4.heap.size w4 w1 := hbr.grown hg1 hbr.size (fun j hj => by cases hj; exact Nat.le_refl _)
          have hR1 := (HROW.out x c hx).below hb1
          have x1 := (hb1.cell (p := ⟨w.heap.size, 0, none⟩) hlt4).trans HX4.out
          have hm1 := HM4.out.below hb1
          clear hkey hlk hv hat hg1 hs1
          have HR1 := Lib.hid hR1
          have HM1 := Lib.hid hm1
          have HX := Lib.hid hx
          have HRG := Lib.hid hrg1
          have HLT := Lib.hid hlt
          obtain ⟨A1, c1, rfl, _⟩ := hR1
          clear hm1 hx hrg1 hlt
          have hX : x = 0 ∨ x = 1 ∨ x = 2 ∨ x = 3 := by rcases HX.out with h | h | h | h <;> simp [h.1]
          have HXX := Lib.hid hX
          clear HX hX
          rw [Kit.izs_length] at *
          go_wp2_with fail
          with_reducible refine (CE.out _ (Pm.kindL x) _ HM1.out HR1.out).mono ?_
          rintro e w5 ⟨rfl, hb5⟩
          by_cases hq : l.map Pm.M.kind = Pm.kindL x
          · rw [decide_eq_true hq]
            have HQ := Lib.hid (Pm.kindK_hit HXX.out hq.symm)
            clear hq
            go_wp2_with fail
            go_ret
            rw [HR.out, HQ.out]
            exact ⟨rfl, hbw4.trans ((hb1.trans (hb5.mono hb1.size)).mono hbw4.size)⟩
          · rw [decide_eq_false hq]
            have HQ := Lib.hid hq
            clear hq
            go_wp2_with fail
            have hrg2 := HRG.out.kept (Kit.grown_of_below hb5) (by simp) (by simp)
            go_roundw
            case rel =>
              refine ⟨_, cnt1, hrg2, Lib.hid (fun k hk h => ?_), hb1.trans (hb5.mono hb1.size)⟩
              by_cases hkx : k = x
              · subst hkx; exact fun e => HQ.out e.symm
              · refine HN.out k hk ?_
                simp [Lit.sameKey, hkx] at h
                exact h
            case measure => rw [hrg2.left_eq, hrg.left_eq]; exact HLT.out
end Go.Proofs.YtlcdhlfkffkifaaGreatDoor
