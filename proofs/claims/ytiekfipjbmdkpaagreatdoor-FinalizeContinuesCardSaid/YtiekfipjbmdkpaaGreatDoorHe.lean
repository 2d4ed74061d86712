/-
  Kind and decode of partition maps. (Drawn together by ext.py out of the texts: Kit Kit2 Bs K3 En Pl Co Va Ma Idm Mk Kd Ke Ki Kj Le Lr Ps Du Dv Dk Dx.)
-/
import Derived.Test.YtiekfipjbmdkpaaGreatDoorEa
import Derived.WalkKit
import Derived.Lib.Hide
import Derived.Shelf.Unicode.DecodeSlow
import Derived.BigQuiet
import Derived.Deep.QuietTactic
import Derived.WalkSpells
import Derived.WalkLawsBesides
import Derived.Handy
import Derived.Lib.AppendStr
import Derived.Lib.DecodeN
import Derived.Lib.RuneBytes
import Derived.Lib.FrozenHead
import Derived.Laws.AppendOwnNone
import Derived.Lib.IndexMore
import Derived.Lib.TrimByte
import Derived.Lib.AppendZerosOnto
import Derived.Lib.Walk
import Derived.Lib.SliceRun
import Derived.Maps.Own
import Derived.Maps.StringElems
import Derived.Maps.RangeWalk
import Derived.Deep.OwnRows
import Derived.Deep.RegionWith
import Derived.Lib.EndianBits
import Derived.StillTailTactics
import Derived.IntWalk
import Derived.RangeFuncBox
namespace Go.Proofs.YtiekfipjbmdkpaaGreatDoor
theorem Cs.byt_lt (l : List UInt8) (i : Nat) : Cs.byt l i < 256 := UInt8.toNat_lt _
open Go.RowKit
namespace Kit

/-- Numbers as cells of type int. -/
def ints (l : List Nat) : List Value := l.map fun (c : Nat) => Value.int .i64 (c : Int)
theorem own_base {w : World} {B B' e size n : Nat} {v : Value} {xs : List Value} (h : w.ownsRow B' e size v n xs) (hB : B ≤ B') : w.ownsRow B e size v n xs :=
  ⟨h.1, h.2.imp id (fun ⟨g, cap, cur, a, b, c⟩ => ⟨g, cap, cur, a, Nat.le_trans hB b, c⟩)⟩

theorem below_drewN {B : Nat} {w : World} (n : Nat) : Below B w (w.drewN n) := ⟨rfl, rfl, rfl, Nat.le_refl _, fun _ _ => rfl⟩
theorem Below.drewN {B : Nat} {a w : World} (h : Below B a w) (n : Nat) : Below B a (w.drewN n) := h.trans (below_drewN n)

theorem Row.of_own {w : World} {base e n : Nat} {v : Value} {xs : List Value} (h : w.ownsRow base e 1 v n xs) : Row w v xs := by
  have hl : xs.length = n := by simpa using h.1
  rcases h.2 with ⟨rfl, h0⟩ | ⟨g, cap, cur, rfl, _, hg, hnc, hcm, _, _⟩
  · exact ⟨none, 0, by rw [hl, h0], by omega, by unfold maxLen; omega, fun h' => by omega⟩
  · refine ⟨some ⟨g, 0, none⟩, cap, by rw [hl], by omega, by rw [hl]; exact Nat.le_trans hnc hcm, fun _ => ⟨g, 0, rfl, (Array.getElem?_eq_some_iff.1 hg).1, fun j u hu => ?_⟩⟩
    have := h.cells (g := g) rfl j u hu
    rwa [Addr.add_lit] at this

theorem Row.at_izs {w : World} {v : Value} {zs : List Int} (h : Row w v (izs zs)) {j : Nat} (hj : j < zs.length) : ∃ b o c, v = .slice (some ⟨b, o, none⟩) zs.length c ∧ b < w.heap.size ∧ w.cell? ⟨b, o + j, none⟩ = some (.int .i64 (zs.getD j 0)) := by
  obtain ⟨A, c, rfl, h1, h2, h3⟩ := h
  rw [izs_length] at h1 h3 ⊢
  obtain ⟨b, o, rfl, hl, hc⟩ := h3 (by omega)
  exact ⟨b, o, c, rfl, hl, hc j _ (by simp [izs, List.getD, hj])⟩

end Kit
end Go.Proofs.YtiekfipjbmdkpaaGreatDoor
namespace Go.Proofs.YtiekfipjbmdkpaaGreatDoor
open Go.RowKit
namespace Kit

theorem byt_get (s : ByteArray) (i : Nat) (h : i < s.size) : (s[i]'h).toNat = Cs.byt s.data.toList i := by
  unfold Cs.byt
  have h' : i < s.data.size := h
  simp only [List.getD, Array.getElem?_toList, Array.getElem?_eq_getElem h']
  rfl
end Kit
end Go.Proofs.YtiekfipjbmdkpaaGreatDoor
namespace Go.Proofs.YtiekfipjbmdkpaaGreatDoor
open Go.RowKit
theorem intInfo : (Tryz.prog.info? 3).map (fun i => (i.zero, i.size, i.bytes)) = some (some (.int .i64 0), 1, 8) := by kernel_rfl
end Go.Proofs.YtiekfipjbmdkpaaGreatDoor
namespace Go.Proofs.YtiekfipjbmdkpaaGreatDoor
open Go.RowKit
namespace Kit

theorem RowS.of_own {w : World} {base e n : Nat} {v : Value} {xs : List Value} (h : w.ownsRow base e 1 v n xs) : RowS w v xs := by
  refine ⟨Row.of_own h, fun m c hv => ?_⟩
  rcases h.2 with ⟨rfl, _⟩ | ⟨g, cap, cur, rfl, _⟩
  · simp at hv; exact hv.2.symm
  · simp at hv
/-- 'append(v, ys...)' onto a row of the call's own, ys a row. -/
theorem appRow {P : Program} {W : World} {ops : Array Oper} {rest : List Oper} {o : Oper} {a : Act} {Q : Exit → Act → World → Prop} {e : TypeId} {z : Value} {by8 : Nat}
    (hinfo : (P.info? e).map (fun i => (i.zero, i.size, i.bytes)) = some (some z, 1, by8)) (hzs : z.cells.size = 1) (hb1 : 1 ≤ by8) (hgd : o.guard = none) (s x : Operand) (t : TypeId)
    (ho : o.op = .call { callee := .builtin .append, args := #[s, x], argTypes := #[t, t] }) (ht : P.underlying t = some (.slice e)) (base : Nat)
    (v : Value) (n : Nat) (xs : List Value) (hs : a.eval s = v) (hown : W.ownsRow base e 1 v n xs)
    (y : Value) (ys : List Value) (hx : a.eval x = y) (hr : RowS W y ys) (h1 : ∀ u ∈ ys, u.oneCell' = true)
    (hbytes : (n + ys.length) * by8 ≤ 140737488355328) (hbase : base ≤ W.heap.size)
    (h : ∀ v' w', w'.ownsRow base e 1 v' (n + ys.length) (xs ++ ys) → Below base W w' → wpList P ops Q rest (a.put o.dst v') w') :
    wpList P ops Q (o :: rest) a W := by
  obtain ⟨i, hi, hz0, hz1, hz2⟩ := info_parts hinfo
  have hnm : n + ys.length ≤ 140737488355328 := Nat.le_trans (Nat.le_mul_of_pos_right _ hb1) hbytes
  obtain ⟨⟨A, c, rfl, hlc, hcm, hcell⟩, hn⟩ := hr
  cases A with
  | none =>
    have hc0 := hn _ _ rfl
    subst hc0
    obtain rfl : ys = [] := List.eq_nil_of_length_eq_zero (by omega)
    refine wpList_append_own_none hgd s x t ho base e i 1 ht hi v n xs hs hown hx ?_
    exact h v W (by simpa using hown) (Below.refl _ _)
  | some ad =>
    refine wpList_append_own W hgd s x t ho base e i z 1 by8 ht hi hz0 hz1 hz2 hzs (by decide) v n xs hs hown ad ys.length c ys hx (by omega) (fun j u hu => ?_) h1 (by unfold maxLen; omega) hbytes hbase ?_
    · have hj : j < ys.length := (List.getElem?_eq_some_iff.1 hu).1
      obtain ⟨b, o', hb, _, hc⟩ := hcell (by omega)
      simp at hb
      subst hb
      rw [Addr.add_lit]
      exact hc j u hu
    · intro v' w' ho' hg _
      exact h v' w' ho' ((Below.refl base W).grown hg hbase (fun k hk => (hown.lt k hk).1))
theorem one_izs (l : List Int) : ∀ u ∈ izs l, u.oneCell' = true := by
  intro u hu
  obtain ⟨_, _, rfl⟩ := List.mem_map.1 hu
  rfl
theorem izs_append (l m : List Int) : izs (l ++ m) = izs l ++ izs m := by simp [izs]

end Kit
end Go.Proofs.YtiekfipjbmdkpaaGreatDoor
namespace Go.Proofs.YtiekfipjbmdkpaaGreatDoor
namespace Cs
/-- Printable ASCII. -/
def prt (b : UInt8) : Bool := decide (32 ≤ b.toNat) && decide (b.toNat ≤ 126)
/-- What can be an identifier. -/
def idR (l : List UInt8) : Bool := decide (1 ≤ l.length) && (decide (l.length ≤ 23) && l.all prt)
/-- Where the identifier stands, and the identifier. -/
def entL (f : List UInt8) : List UInt8 := (f.drop 1).take 23
def entS (f : List UInt8) : List UInt8 := (entL f).takeWhile fun b => b != 0
/-- Is it an entity identifier behind its length? -/
def entOk (f : List UInt8) : Bool := idR (entS f) && ((entL f).drop (entS f).length).all fun b => b == 0
/-- What ParseEntity returns. -/
def pentR (f : List UInt8) : (List UInt8 × List UInt8) × Int :=
  if ¬ f.length = 32 then (([], []), 1) else if entOk f = true then ((entS f, f.drop 24), 0) else (([], []), 10)

end Cs

end Go.Proofs.YtiekfipjbmdkpaaGreatDoor
namespace Go.Proofs.YtiekfipjbmdkpaaGreatDoor
namespace Pm

theorem num_append (a b : List UInt8) : num (a ++ b) = num a + 256 ^ a.length * num b := by
  induction a with
  | nil => simp [num]
  | cons x t ih =>
    simp only [List.cons_append, num, ih, List.length_cons, Nat.pow_succ]
    rw [Nat.mul_add, Nat.mul_comm (256 ^ t.length) 256, ← Nat.mul_assoc, Nat.add_assoc]
theorem at_lt (s : List UInt8) (a k : Nat) : at_ s a k < 256 ^ k := by
  have h := num_lt ((s.drop a).take k)
  refine Nat.lt_of_lt_of_le h (Nat.pow_le_pow_right (by decide) ?_)
  rw [List.length_take]
  omega
def kindOf (s : List UInt8) : Int := if s = nameV then 1 else if s = nameS then 2 else if s = nameM then 3 else 0

def tabs (d : List UInt8) (n : Nat) : List Int := (List.range n).map fun i => (at_ d (48 + 4 * i) 4 : Int)
end Pm
end Go.Proofs.YtiekfipjbmdkpaaGreatDoor
namespace Go.Proofs.YtiekfipjbmdkpaaGreatDoor
open Go.RowKit

namespace Pm
/-- Some number is no word. -/
def badW (zs : List Int) : Bool := zs.any fun n => !word n
end Pm
theorem any_snocF {α : Type} [Inhabited α] {p : α → Bool} {l : List α} {i : Nat} (hi : i < l.length) (h : (l.take i).any p = false) (hp : p (l.getD i default) = false) : (l.take (i + 1)).any p = false := by
  rw [List.take_succ_eq_append_getElem hi, List.any_append, h]
  simp [List.getD, hi] at hp
  simp [hp]
theorem any_hit {α : Type} [Inhabited α] {p : α → Bool} {l : List α} {i : Nat} (hi : i < l.length) (hp : p (l.getD i default) = true) : l.any p = true := by
  rw [List.any_eq_true]
  exact ⟨l.getD i default, by simp [List.getD, hi], hp⟩

set_option maxHeartbeats 1600000 in
/-- partitionmap.word. -/
theorem word_any (n : Int) (w : World) : Calls Tryz.prog 359 #[.int .i64 n] w fun e w' => e = .returned (.bool (Pm.word n)) ∧ w = w' := by
  unfold Pm.word
  by_cases h0 : 0 ≤ n
  · go_enter Tryz.func359, Tryz.ntmps359
    go_wp2
    go_ret
    refine ⟨congrArg (fun b => Ending.returned (.bool b)) ?_, rfl⟩
    simp [h0]
  · have h0' : decide (0 ≤ n) = false := by simpa using h0
    rw [h0']
    go_enter Tryz.func359, Tryz.ntmps359
    go_wp2
    go_ret
    exact ⟨rfl, rfl⟩

set_option maxHeartbeats 1600000 in
/-- partitionmap.valid$1. -/
theorem notWord_any (n : Int) (w : World) : Calls Tryz.prog 358 #[.int .i64 n] w fun e w' => e = .returned (.bool (!Pm.word n)) ∧ w = w' := by
  have CW := Lib.hid (fun W => word_any n W)
  generalize Pm.word n = b at *
  go_enter Tryz.func358, Tryz.ntmps358
  go_wp2_with fail
  with_reducible refine (CW.out _).mono ?_
  rintro e w2 ⟨rfl, rfl⟩
  go_wp2_with fail
  go_ret
  exact ⟨rfl, rfl⟩

set_option maxHeartbeats 1600000 in
set_option maxRecDepth 100000 in
/-- slices.IndexFunc over ints, asked for what is no word. -/
theorem indexInts_any (v : Value) (zs : List Int) (w : World) (hr : Kit.Row w v (Kit.izs zs)) (hl : zs.length ≤ 9223372036854775807) :
    Calls Tryz.prog 426 #[v, .func (.func 358) #[] #[]] w fun e w' => ∃ r : Int, e = .returned (.int .i64 r) ∧ -1 ≤ r ∧ (0 ≤ r ↔ Pm.badW zs = true) ∧ w = w' := by
  have HRow := Lib.hid hr
  obtain ⟨A, c, rfl, hlc, hcm, _⟩ := hr
  rw [Kit.izs_length] at *
  unfold maxLen at hcm
  go_enter Tryz.func426, Tryz.ntmps426
  go_wp2_with fail
  go_loop [5, 8] (fun _ iv => ∃ j : Nat, j ≤ zs.length ∧ iv = .int .i64 j ∧ Hid ((zs.take j).any (fun n => !Pm.word n) = false)) (fun _ iv => zs.length - (intOf iv).toNat)
  case atStart => exact ⟨0, by omega, rfl, Lib.hid rfl⟩
  case round =>
    obtain ⟨j, hj, rfl, HA⟩ := hrel
    by_cases hlt : j < zs.length
    · obtain ⟨b, o, c', hv, hbw, hcj⟩ := HRow.out.at_izs hlt
      obtain ⟨rfl, _, rfl⟩ : A = some ⟨b, o, none⟩ ∧ zs.length = zs.length ∧ c = c' := by simpa using hv
      clear hv
      have CP := Lib.hid (fun W => notWord_any (zs.getD j 0) W)
      cases hp : Pm.word (zs.getD j 0) with
      | true =>
        have HN := Lib.hid (any_snocF (p := fun n => !Pm.word n) hlt HA.out (by simpa [hp] using hp))
        rw [hp] at CP
        clear hp
        generalize zs.getD j 0 = x at *
        go_wp2_with fail
        with_reducible refine (CP.out _).mono ?_
        rintro e w2 ⟨rfl, rfl⟩
        go_wp2_with fail
        go_round
        case rel => exact ⟨j + 1, by omega, by go_num, HN⟩
        case measure => simp [intOf]; omega
      | false =>
        have HN := Lib.hid (show Pm.badW zs = true from any_hit (p := fun n => !Pm.word n) hlt (by simpa [hp] using hp))
        rw [hp] at CP
        clear hp
        generalize zs.getD j 0 = x at *
        go_wp2_with fail
        with_reducible refine (CP.out _).mono ?_
        rintro e w2 ⟨rfl, rfl⟩
        go_wp2_with fail
        go_ret
        exact ⟨_, rfl, by omega, ⟨fun _ => HN.out, fun _ => by omega⟩, rfl⟩
    · obtain rfl : j = zs.length := by omega
      have ha := HA.out
      rw [List.take_length] at ha
      have HH := Lib.hid (show Pm.badW zs = false from ha)
      clear ha
      go_wp2_with fail
      go_ret
      exact ⟨_, rfl, by decide, ⟨fun h => absurd h (by decide), fun h => by rw [HH.out] at h; cases h⟩, rfl⟩

set_option maxHeartbeats 1600000 in
set_option maxRecDepth 100000 in
/-- slices.ContainsFunc over ints, asked for what is no word. -/
theorem containsInts_any (v : Value) (zs : List Int) (w : World) (hr : Kit.Row w v (Kit.izs zs)) (hl : zs.length ≤ 9223372036854775807) :
    Calls Tryz.prog 356 #[v, .func (.func 358) #[] #[]] w fun e w' => e = .returned (.bool (Pm.badW zs)) ∧ w = w' := by
  have CI := Lib.hid (indexInts_any v zs w hr hl)
  obtain ⟨A, c, rfl, _, _, _⟩ := hr
  cases hp : Pm.badW zs with
  | true =>
    rw [hp] at CI
    go_enter Tryz.func356, Tryz.ntmps356
    go_wp2_with fail
    with_reducible refine CI.out.mono ?_
    rintro e w2 ⟨r, rfl, hr, hi, rfl⟩
    have hr0 : 0 ≤ r := hi.2 (by first | rfl | trivial)
    clear hi
    go_wp2_with fail
    go_ret
    first | exact ⟨rfl, rfl⟩ | (refine ⟨congrArg (fun b => Ending.returned (.bool b)) ?_, rfl⟩; simp <;> omega)
  | false =>
    rw [hp] at CI
    go_enter Tryz.func356, Tryz.ntmps356
    go_wp2_with fail
    with_reducible refine CI.out.mono ?_
    rintro e w2 ⟨r, rfl, hr, hi, rfl⟩
    have hr0 : r < 0 := by
      rcases Int.lt_or_le r 0 with h | h
      · exact h
      · have := hi.1 h; cases this
    clear hi
    go_wp2_with fail
    go_ret
    first | exact ⟨rfl, rfl⟩ | (refine ⟨congrArg (fun b => Ending.returned (.bool b)) ?_, rfl⟩; simp <;> omega)

set_option maxHeartbeats 1600000 in
set_option maxRecDepth 100000 in
/-- slices.Grow of the nil slice. -/
theorem grow_any (n : Nat) (h1 : 1 ≤ n) (h2 : n ≤ 17592186044416) (w : World) : Calls Tryz.prog 427 #[.slice none 0 0, .int .i64 (n : Int)] w fun e w' => ∃ v', e = .returned v' ∧ w'.ownsRow w.heap.size 3 1 v' 0 [] ∧ Below w.heap.size w w' := by
  obtain ⟨i0, hi, hz0, hz1, hz2⟩ := info_parts intInfo
  have hrz : ∀ ty, (Builtin.append_ #[68, 3] ty #[.slice none 0 0, .int .i64 (n : Int)]).run Tryz.prog w =
      .ok (.slice (some ⟨w.heap.size, 0, none⟩) n (grownCap w n 0 3)) (w.drew.alloc (.cells (#[] ++ Builtin.zeroCells (Value.int .i64 0).cells n ++ Builtin.zeroCells (Value.int .i64 0).cells (grownCap w n 0 3 - n)) 3)) := fun ty => by
    have h := Lib.run_append_grow_zeros (P := Tryz.prog) w 68 3 ty 3 i0 (.int .i64 0) .i64 .i64 Tryz.underlying68 Tryz.underlying3 hi hz0 none 0 0 [] (run_firstCells_none w.drew i0.size 0 0 0) n (by omega) (by omega) (by omega) (by omega)
      (by rw [hz2]; omega) (by rw [Nat.zero_add]; exact growslice_fits (by omega) (by rw [hz2]; omega))
    simpa using h
  have hGn : n ≤ grownCap w n 0 3 := grownCap_ge w _ _ _
  have hGm := grownCap_le_maxLen w n 0 3 (by unfold maxLen; omega)
  obtain ⟨G, hG⟩ : ∃ G, G = grownCap w n 0 3 := ⟨_, rfl⟩
  rw [← hG] at hrz hGn hGm
  have hG63 : G ≤ 9223372036854775807 := by unfold maxLen at hGm; omega
  have hcz : (#[] ++ Builtin.zeroCells (Value.int .i64 0).cells n ++ Builtin.zeroCells (Value.int .i64 0).cells (G - n)).size = G := by
    simp [Builtin.zeroCells, Value.cells]; omega
  generalize #[] ++ Builtin.zeroCells (Value.int .i64 0).cells n ++ Builtin.zeroCells (Value.int .i64 0).cells (G - n) = C at *
  clear hG
  have HGm := Lib.hid hGm
  have HC := Lib.hid hcz
  clear hGm hcz
  go_enter Tryz.func427, Tryz.ntmps427
  go_wp2_with (at_builtin; refine Lib.wpList_append_run _ rfl _ _ _ _ rfl _ _ rfl rfl _ _ (hrz _) ?_)
  go_ret
  exact ⟨_, rfl, ⟨by simp, .inr ⟨w.heap.size, G, C, rfl, Nat.le_refl _, heap_alloc_new w _, by omega, HGm.out, by rw [HC.out]; omega, by simp⟩⟩, ((Below.refl _ w).alloc (Nat.le_refl _) _).drew⟩

set_option maxHeartbeats 3200000 in
set_option maxRecDepth 100000 in
/-- slices.Concat of two slices of ints. -/
theorem concat_any (b : Nat) (v1 v2 : Value) (xs ys : List Int) (w : World) (hb : b < w.heap.size) (hc0 : w.cell? ⟨b, 0, none⟩ = some v1) (hc1 : w.cell? ⟨b, 1, none⟩ = some v2)
    (h1 : Kit.RowS w v1 (Kit.izs xs)) (h2 : Kit.RowS w v2 (Kit.izs ys)) (hl : xs.length + ys.length ≤ 17592186044416) (hp : 1 ≤ xs.length + ys.length) :
    Calls Tryz.prog 357 #[.slice (some ⟨b, 0, none⟩) 2 2] w fun e w' => ∃ v', e = .returned v' ∧ w'.ownsRow w.heap.size 3 1 v' (xs.length + ys.length) (Kit.izs (xs ++ ys)) ∧ Below w.heap.size w w' := by
  have cg := fun W => grow_any (xs.length + ys.length) hp hl W
  simp only [Int.natCast_add] at cg
  have CG := Lib.hid cg
  clear cg
  have H1 := Lib.hid h1
  have H2 := Lib.hid h2
  obtain ⟨⟨A1, c1, rfl, hl1, hm1, _⟩, _⟩ := h1
  obtain ⟨⟨A2, c2, rfl, hl2, hm2, _⟩, _⟩ := h2
  rw [Kit.izs_length] at *
  unfold maxLen at hm1 hm2
  go_enter Tryz.func357, Tryz.ntmps357
  go_wp2_with fail
  go_loop [3, 5, 11] (fun nv _ iv => ∃ j : Nat, j ≤ 2 ∧ iv = .int .i64 j ∧ nv = .int .i64 (if j = 0 then 0 else if j = 1 then xs.length else xs.length + ys.length : Nat)) (fun _ _ iv => 2 - (intOf iv).toNat)
  case atStart => exact ⟨0, by omega, rfl, rfl⟩
  case round =>
    obtain ⟨j, hj, rfl, rfl⟩ := hrel
    have hj3 : j = 0 ∨ j = 1 ∨ j = 2 := by omega
    rcases hj3 with rfl | rfl | rfl
    · rw [if_pos rfl]
      go_wp2_with fail
      go_round
      case rel => exact ⟨1, by omega, by first | rfl | go_num, by simp⟩
      case measure => simp [intOf]
    · rw [if_neg (by omega), if_pos rfl]
      go_wp2_with fail
      go_round
      case rel => exact ⟨2, by omega, by first | rfl | go_num, by simp⟩
      case measure => simp [intOf]
    · rw [if_neg (by omega), if_neg (by omega)]
      go_wp2_with fail
      with_reducible refine (CG.out _).mono ?_
      rintro e w3 ⟨v3, rfl, hown3, hb3⟩
      obtain ⟨HC0, HC1, HB3, HO3⟩ : Hid (w3.cell? ⟨b, 0, none⟩ = some (.slice A1 xs.length c1)) ∧ Hid (w3.cell? ⟨b, 1, none⟩ = some (.slice A2 ys.length c2)) ∧ Hid (Below w.heap.size w w3) ∧ Hid (w3.ownsRow w.heap.size 3 1 v3 0 []) :=
        ⟨(hb3.cell (p := ⟨b, 0, none⟩) hb).trans hc0, (hb3.cell (p := ⟨b, 1, none⟩) hb).trans hc1, hb3, hown3⟩
      clear hc0 hc1 hown3 hb3
      go_wp2_with fail
      go_loopw [6, 8, 27] (fun nv _ iv wr => ∃ j : Nat, j ≤ 2 ∧ iv = .int .i64 j ∧ wr.ownsRow w.heap.size 3 1 nv (if j = 0 then 0 else if j = 1 then xs.length else xs.length + ys.length) (if j = 0 then [] else if j = 1 then Kit.izs xs else Kit.izs (xs ++ ys)) ∧ Below w.heap.size w wr) (fun _ _ iv _ => 2 - (intOf iv).toNat)
      case atStart => exact ⟨0, by omega, rfl, HO3.out, HB3.out⟩
      case round =>
        obtain ⟨j, hj, rfl, hown, hbw⟩ := hrel
        have HOWN := Lib.hid hown
        clear hown
        have hsz := hbw.size
        have hj3 : j = 0 ∨ j = 1 ∨ j = 2 := by omega
        rcases hj3 with rfl | rfl | rfl
        · have hc := (hbw.cell (p := ⟨b, 0, none⟩) hb).trans ((HB3.out.cell (p := ⟨b, 0, none⟩) hb).symm.trans HC0.out)
          have HR1 := Lib.hid (H1.out.below hbw)
          rw [if_pos rfl, if_pos rfl] at HOWN
          clear hj
          go_wp2_with (at_builtin; refine Kit.appRow intInfo rfl (by decide) rfl _ _ 68 rfl Tryz.underlying68 w.heap.size _ _ _ rfl HOWN.out _ _ rfl HR1.out (Kit.one_izs _) ?c1 hsz ?_)
          case c1 => rw [Kit.izs_length]; omega
          intro v' w4 hown' hb4
          simp only [Kit.izs_length] at hown'
          have HO4 := Lib.hid hown'
          clear hown'
          go_wp2_with fail
          go_roundw
          case rel => exact ⟨1, by omega, by first | rfl | go_num, HO4.out, hbw.trans hb4⟩
          case measure => simp [intOf]
        · have hc := (hbw.cell (p := ⟨b, 1, none⟩) hb).trans ((HB3.out.cell (p := ⟨b, 1, none⟩) hb).symm.trans HC1.out)
          have HR1 := Lib.hid (H2.out.below hbw)
          rw [if_neg (by omega), if_pos rfl, if_neg (by omega), if_pos rfl] at HOWN
          clear hj
          go_wp2_with (at_builtin; refine Kit.appRow intInfo rfl (by decide) rfl _ _ 68 rfl Tryz.underlying68 w.heap.size _ _ _ rfl HOWN.out _ _ rfl HR1.out (Kit.one_izs _) ?c2 hsz ?_)
          case c2 => rw [Kit.izs_length]; omega
          intro v' w4 hown' hb4
          simp only [Kit.izs_length, ← Kit.izs_append] at hown'
          have HO4 := Lib.hid hown'
          clear hown'
          go_wp2_with fail
          go_roundw
          case rel => exact ⟨2, by omega, by first | rfl | go_num, HO4.out, hbw.trans hb4⟩
          case measure => simp [intOf]
        · rw [if_neg (by omega), if_neg (by omega), if_neg (by omega), if_neg (by omega)] at HOWN
          go_wp2_with fail
          go_ret
          exact ⟨_, rfl, HOWN.out, hbw⟩
end Go.Proofs.YtiekfipjbmdkpaaGreatDoor
namespace Go.Proofs.YtiekfipjbmdkpaaGreatDoor
open Go.RowKit
namespace Pm
/-- A map as a value, its tables a slice. -/
def pmV (x : M) (tv : Value) : Value := .agg #[.int .i64 x.kind, .int .i64 x.number, tv, .int .i64 x.file, .int .i64 x.mirror, .int .i64 x.bitmap]
/-- All numbers are of the type int. -/
structure I64 (x : M) : Prop where
  kind : -9223372036854775808 ≤ x.kind ∧ x.kind ≤ 9223372036854775807
  number : -9223372036854775808 ≤ x.number ∧ x.number ≤ 9223372036854775807
  file : -9223372036854775808 ≤ x.file ∧ x.file ≤ 9223372036854775807
  mirror : -9223372036854775808 ≤ x.mirror ∧ x.mirror ≤ 9223372036854775807
  bitmap : -9223372036854775808 ≤ x.bitmap ∧ x.bitmap ≤ 9223372036854775807
def three (x : M) : Bool := decide (x.file = 0) && (decide (x.mirror = 0) && decide (x.bitmap = 0))
theorem valid_no1 {x : M} (h : x.kind < 0 ∨ 3 < x.kind ∨ x.number < 0 ∨ 65535 < x.number) : valid x = false := by
  rw [Bool.eq_false_iff]; intro hv
  simp only [valid, Bool.and_eq_true, decide_eq_true_eq] at hv
  omega
theorem valid_no2 {x : M} (hk : x.kind = 2) (h : x.tables.length < 1 ∨ 4 < x.tables.length) : valid x = false := by
  rw [Bool.eq_false_iff]; intro hv
  simp only [valid, Bool.and_eq_true, decide_eq_true_eq, if_pos hk] at hv
  omega
theorem valid_no3 {x : M} (hk : ¬ x.kind = 2) (h : 0 < x.tables.length) : valid x = false := by
  rw [Bool.eq_false_iff]; intro hv
  simp only [valid, Bool.and_eq_true, decide_eq_true_eq, if_neg hk] at hv
  omega
theorem valid_no4 {x : M} (hk : ¬ x.kind = 3) (h : three x = false) : valid x = false := by
  rw [Bool.eq_false_iff]; intro hv
  simp only [valid, Bool.and_eq_true, if_neg hk] at hv
  unfold three at h
  rw [← Bool.and_eq_true, ← Bool.and_eq_true] at hv
  simp_all
theorem valid_yes {x : M} (h1 : 0 ≤ x.kind ∧ x.kind ≤ 3 ∧ 0 ≤ x.number ∧ x.number ≤ 65535) (h2 : if x.kind = 2 then 1 ≤ x.tables.length ∧ x.tables.length ≤ 4 else x.tables.length = 0)
    (h3 : x.kind = 3 ∨ three x = true) : valid x = !badW (x.tables ++ [x.file, x.mirror, x.bitmap]) := by
  unfold valid badW
  rw [decide_eq_true h1.1, decide_eq_true h1.2.1, decide_eq_true h1.2.2.1, decide_eq_true h1.2.2.2]
  have e2 : (if x.kind = 2 then decide (1 ≤ x.tables.length) && decide (x.tables.length ≤ 4) else decide (x.tables.length = 0)) = true := by
    split at h2
    · rename_i hk; rw [if_pos hk]; simp [h2]
    · rename_i hk; rw [if_neg hk]; simp [h2]
  have e3 : (if x.kind = 3 then true else decide (x.file = 0) && (decide (x.mirror = 0) && decide (x.bitmap = 0))) = true := by
    rcases h3 with h3 | h3
    · rw [if_pos h3]
    · split
      · rfl
      · exact h3
  rw [e2, e3]
  simp [List.any_append, List.not_any_eq_all_not, Bool.and_assoc]
theorem or_zero {a b : Int} (ha : -9223372036854775808 ≤ a ∧ a ≤ 9223372036854775807) (hb : -9223372036854775808 ≤ b ∧ b ≤ 9223372036854775807) : bits BinOp.or IntKind.i64 a b = 0 ↔ a = 0 ∧ b = 0 := by
  have of0 : ∀ z : Int, -9223372036854775808 ≤ z ∧ z ≤ 9223372036854775807 → ((BitVec.ofInt 64 z).toNat = 0 ↔ z = 0) := by
    intro z hz
    rw [BitVec.toNat_ofInt]
    have : ((2 : Nat) ^ 64 : Int) = 18446744073709551616 := by decide
    omega
  show IntKind.i64.wrap ((BitVec.ofInt 64 a ||| BitVec.ofInt 64 b).toNat : Int) = 0 ↔ _
  rw [IntKind.wrap_i64, ← of0 a ha, ← of0 b hb, BitVec.toNat_or]
  generalize hA : BitVec.ofInt 64 a = A
  generalize hB : BitVec.ofInt 64 b = B
  have hlt : A.toNat ||| B.toNat < 18446744073709551616 := Nat.or_lt_two_pow (n := 64) A.isLt B.isLt
  have hor : A.toNat ||| B.toNat = 0 ↔ A.toNat = 0 ∧ B.toNat = 0 := Nat.or_eq_zero_iff
  omega
theorem or_range (a b : Int) : -9223372036854775808 ≤ bits BinOp.or IntKind.i64 a b ∧ bits BinOp.or IntKind.i64 a b ≤ 9223372036854775807 := by
  show -9223372036854775808 ≤ IntKind.i64.wrap _ ∧ IntKind.i64.wrap _ ≤ 9223372036854775807
  rw [IntKind.wrap_i64]
  omega
theorem or_three {x : M} (h : I64 x) : (bits BinOp.or IntKind.i64 (bits BinOp.or IntKind.i64 x.file x.mirror) x.bitmap != 0) = !three x := by
  have h1 := or_zero h.file h.mirror
  have h2 := or_zero (or_range x.file x.mirror) h.bitmap
  unfold three
  rw [Bool.eq_iff_iff]
  simp only [bne_iff_ne, ne_eq, h2, h1, Bool.not_eq_true', Bool.and_eq_false_iff, decide_eq_false_iff_not]
  omega
end Pm

theorem concat_at (w : World) (bx : Obj) (tv : Value) (t : List Int) (f m b : Int) (hr : Kit.RowS w tv (Kit.izs t)) (hl : t.length ≤ 17592186044413) :
    Calls Tryz.prog 357 #[.slice (some ⟨w.heap.size + 1 + 1, 0, none⟩) 2 2] (((w.alloc bx).alloc (.cells #[.int .i64 f, .int .i64 m, .int .i64 b] 3)).alloc (.cells #[tv, .slice (some ⟨w.heap.size + 1, 0, none⟩) 3 3] 68)) fun e w' =>
      ∃ v', e = .returned v' ∧ Kit.Row w' v' (Kit.izs (t ++ [f, m, b])) ∧ Below w.heap.size w w' := by
  have hb1 : Below w.heap.size w (((w.alloc bx).alloc (.cells #[.int .i64 f, .int .i64 m, .int .i64 b] 3)).alloc (.cells #[tv, .slice (some ⟨w.heap.size + 1, 0, none⟩) 3 3] 68)) :=
    (((Below.refl _ w).alloc (Nat.le_refl _) _).alloc (by simp) _).alloc (by simp <;> omega) _
  have h2 : Kit.RowS ((w.alloc bx).alloc (.cells #[.int .i64 f, .int .i64 m, .int .i64 b] 3)) (.slice (some ⟨w.heap.size + 1, 0, none⟩) 3 3) (Kit.izs [f, m, b]) := by
    have := Kit.RowS.new (w.alloc bx) (Kit.izs [f, m, b]) 3 (by simp [Kit.izs, maxLen])
    simpa [Kit.izs] using this
  have := concat_any (w.heap.size + 1 + 1) tv (.slice (some ⟨w.heap.size + 1, 0, none⟩) 3 3) t [f, m, b] (((w.alloc bx).alloc (.cells #[.int .i64 f, .int .i64 m, .int .i64 b] 3)).alloc (.cells #[tv, .slice (some ⟨w.heap.size + 1, 0, none⟩) 3 3] 68))
    (by simp) (by rw [World.cell?_alloc_at _ _ _ _ (by simp)]; simp) (by rw [World.cell?_alloc_at _ _ _ _ (by simp)]; simp) (hr.below hb1) (h2.below ((Below.refl _ _).alloc (Nat.le_refl _) _)) (by simp <;> omega) (by simp <;> omega)
  refine this.mono fun e w' ⟨v', he, ho, hb⟩ => ⟨v', he, Kit.Row.of_own ho, hb1.trans (hb.mono (by simp <;> omega))⟩

set_option maxHeartbeats 6400000 in
set_option maxRecDepth 100000 in
/-- partitionmap.valid. -/
theorem valid_any (x : Pm.M) (tv : Value) (w : World) (hr : Kit.RowS w tv (Kit.izs x.tables)) (hx : Pm.I64 x) (hl : x.tables.length ≤ 17592186044413) :
    Calls Tryz.prog 265 #[Pm.pmV x tv] w fun e w' => e = .returned (.bool (Pm.valid x)) ∧ Below w.heap.size w w' := by
  have HRow := Lib.hid hr
  have hor := Pm.or_three hx
  have hv1 := @Pm.valid_no1 x
  have hv2 := @Pm.valid_no2 x
  have hv3 := @Pm.valid_no3 x
  have hv4 := @Pm.valid_no4 x
  have hv5 := @Pm.valid_yes x
  have hb1 := hx.kind; have hb2 := hx.number
  unfold Pm.pmV
  obtain ⟨k, n, t, f, m, b⟩ := x
  simp only [] at *
  obtain ⟨⟨A, c, rfl, hlc, hcm, _⟩, _⟩ := hr
  rw [Kit.izs_length] at *
  unfold maxLen at hcm
  generalize Pm.valid ⟨k, n, t, f, m, b⟩ = V at *
  generalize Pm.three ⟨k, n, t, f, m, b⟩ = T at *
  by_cases g1 : k < 0 ∨ 3 < k ∨ n < 0 ∨ 65535 < n
  · have HV := Lib.hid (hv1 g1)
    clear hv1 hv2 hv3 hv4 hv5 hor
    have hcs : k < 0 ∨ (¬ k < 0 ∧ 3 < k) ∨ (¬ k < 0 ∧ ¬ 3 < k ∧ n < 0) ∨ (¬ k < 0 ∧ ¬ 3 < k ∧ ¬ n < 0 ∧ 65535 < n) := by omega
    clear g1
    rcases hcs with k1 | ⟨k1, k2⟩ | ⟨k1, k2, k3⟩ | ⟨k1, k2, k3, k4⟩
    all_goals
      go_enter Tryz.func265, Tryz.ntmps265
      go_wp2
      go_ret
      rw [HV.out]
      exact ⟨rfl, (Below.refl _ _).alloc (Nat.le_refl _) _⟩
  · have k1 : 0 ≤ k := by omega
    have k2 : k ≤ 3 := by omega
    have k3 : 0 ≤ n := by omega
    have k4 : n ≤ 65535 := by omega
    have d1 : decide (k < 0) = false := decide_eq_false (by omega)
    have d2 : decide (3 < k) = false := decide_eq_false (by omega)
    have d3 : decide (n < 0) = false := decide_eq_false (by omega)
    have d4 : decide (65535 < n) = false := decide_eq_false (by omega)
    clear g1 hv1
    by_cases hk2 : k = 2
    · by_cases g2 : t.length < 1 ∨ 4 < t.length
      · have HV := Lib.hid (hv2 hk2 g2)
        clear hv2 hv3 hv4 hv5 hor
        subst hk2
        have hcs : (t.length : Int) < 1 ∨ (¬ (t.length : Int) < 1 ∧ 4 < (t.length : Int)) := by omega
        clear g2
        rcases hcs with k5 | ⟨k5, k6⟩
        all_goals
          go_enter Tryz.func265, Tryz.ntmps265
          go_wp2_with fail
          go_ret
          rw [HV.out]
          exact ⟨rfl, (Below.refl _ _).alloc (Nat.le_refl _) _⟩
      · have k5 : 1 ≤ t.length := by omega
        have k6 : t.length ≤ 4 := by omega
        have d5 : decide ((t.length : Int) < 1) = false := decide_eq_false (by omega)
        have d6 : decide (4 < (t.length : Int)) = false := decide_eq_false (by omega)
        cases T with
        | false =>
          have HV := Lib.hid (hv4 (by omega) rfl)
          simp only [Bool.not_false] at hor
          clear hv2 hv3 hv4 hv5 g2
          subst hk2
          go_enter Tryz.func265, Tryz.ntmps265
          go_wp2_with fail
          go_ret
          rw [HV.out]
          exact ⟨rfl, (Below.refl _ _).alloc (Nat.le_refl _) _⟩
        | true =>
          have HV := Lib.hid (hv5 ⟨k1, k2, k3, k4⟩ (by rw [if_pos hk2]; exact ⟨k5, k6⟩) (.inr rfl))
          simp only [Bool.not_true] at hor
          clear hv2 hv3 hv4 hv5 g2
          subst hk2
          have CA := Lib.hid (concat_at w (.cells #[.int .i64 2, .int .i64 n, .slice A t.length c, .int .i64 f, .int .i64 m, .int .i64 b] 146) _ t f m b HRow.out hl)
          have hl3 : (t ++ [f, m, b]).length ≤ 9223372036854775807 := by simp <;> omega
          clear HRow hlc hcm hl hx hb1 hb2
          go_enter Tryz.func265, Tryz.ntmps265
          go_wp2_with fail
          with_reducible refine CA.out.mono ?_
          rintro e w3 ⟨v3, rfl, hr3, hb3⟩
          have CB := Lib.hid (containsInts_any v3 _ w3 hr3 hl3)
          generalize Pm.badW (t ++ [f, m, b]) = q at CB HV
          clear hr3
          go_wp2_with fail
          with_reducible refine CB.out.mono ?_
          rintro e w4 ⟨rfl, rfl⟩
          go_wp2_with fail
          go_ret
          rw [HV.out]
          exact ⟨rfl, hb3⟩
    · have d7 : (k == 2) = false := by rw [beq_eq_false_iff_ne]; exact hk2
      by_cases g2 : 0 < t.length
      · have HV := Lib.hid (hv3 hk2 g2)
        clear hv2 hv3 hv4 hv5 hor
        have k5 : 0 < (t.length : Int) := by omega
        have d8 : decide (0 < (t.length : Int)) = true := decide_eq_true k5
        clear g2 hk2
        go_enter Tryz.func265, Tryz.ntmps265
        go_wp2_with fail
        go_ret
        rw [HV.out]
        exact ⟨rfl, (Below.refl _ _).alloc (Nat.le_refl _) _⟩
      · obtain rfl : t = [] := List.eq_nil_of_length_eq_zero (by omega)
        clear g2
        by_cases hk3 : k = 3
        · have HV := Lib.hid (hv5 ⟨k1, k2, k3, k4⟩ (by rw [if_neg hk2]; rfl) (.inl hk3))
          clear hv2 hv3 hv4 hv5 hor
          subst hk3
          clear hk2
          simp only [List.length_nil] at *
          have hz : ((0 : Nat) : Int) = 0 := rfl
          clear hz
          have CA := Lib.hid (concat_at w (.cells #[.int .i64 3, .int .i64 n, .slice A 0 c, .int .i64 f, .int .i64 m, .int .i64 b] 146) _ [] f m b HRow.out hl)
          have hl3 : (([] : List Int) ++ [f, m, b]).length ≤ 9223372036854775807 := by simp <;> omega
          clear HRow hlc hcm hl hx hb1 hb2
          go_enter Tryz.func265, Tryz.ntmps265
          go_wp2_with fail
          with_reducible refine CA.out.mono ?_
          rintro e w3 ⟨v3, rfl, hr3, hb3⟩
          have CB := Lib.hid (containsInts_any v3 _ w3 hr3 hl3)
          generalize Pm.badW (([] : List Int) ++ [f, m, b]) = q at CB HV
          clear hr3
          go_wp2_with fail
          with_reducible refine CB.out.mono ?_
          rintro e w4 ⟨rfl, rfl⟩
          go_wp2_with fail
          go_ret
          rw [HV.out]
          exact ⟨rfl, hb3⟩
        · have d9 : (k != 3) = true := by rw [bne_iff_ne]; exact hk3
          cases T with
          | false =>
            have HV := Lib.hid (hv4 hk3 rfl)
            simp only [Bool.not_false] at hor
            clear hv2 hv3 hv4 hv5 hk2 hk3
            simp only [List.length_nil] at *
            go_enter Tryz.func265, Tryz.ntmps265
            go_wp2_with fail
            go_ret
            rw [HV.out]
            exact ⟨rfl, (Below.refl _ _).alloc (Nat.le_refl _) _⟩
          | true =>
            have HV := Lib.hid (hv5 ⟨k1, k2, k3, k4⟩ (by rw [if_neg hk2]; rfl) (.inr rfl))
            simp only [Bool.not_true] at hor
            clear hv2 hv3 hv4 hv5 hk2 hk3
            simp only [List.length_nil] at *
            have CA := Lib.hid (concat_at w (.cells #[.int .i64 k, .int .i64 n, .slice A 0 c, .int .i64 f, .int .i64 m, .int .i64 b] 146) _ [] f m b HRow.out hl)
            have hl3 : (([] : List Int) ++ [f, m, b]).length ≤ 9223372036854775807 := by simp <;> omega
            clear HRow hlc hcm hl hx hb1 hb2
            go_enter Tryz.func265, Tryz.ntmps265
            go_wp2_with fail
            with_reducible refine CA.out.mono ?_
            rintro e w3 ⟨v3, rfl, hr3, hb3⟩
            have CB := Lib.hid (containsInts_any v3 _ w3 hr3 hl3)
            generalize Pm.badW (([] : List Int) ++ [f, m, b]) = q at CB HV
            clear hr3
            go_wp2_with fail
            with_reducible refine CB.out.mono ?_
            rintro e w4 ⟨rfl, rfl⟩
            go_wp2_with fail
            go_ret
            rw [HV.out]
            exact ⟨rfl, hb3⟩
end Go.Proofs.YtiekfipjbmdkpaaGreatDoor
namespace Go.Proofs.YtiekfipjbmdkpaaGreatDoor
open Go.RowKit
namespace Pm
/-- The cells of a map. -/
def pmC (x : M) (tv : Value) : List Value := [.int .i64 x.kind, .int .i64 x.number, tv, .int .i64 x.file, .int .i64 x.mirror, .int .i64 x.bitmap]
/-- A slice value that reads as maps. -/
structure MapsAt (w : World) (v : Value) (l : List M) (T : Nat → Value) : Prop where
  row : Kit.RowN w v 6 l.length (fun j => pmC (l.getD j none) (T j))
  tabs : ∀ j, j < l.length → Kit.RowS w (T j) (Kit.izs (l.getD j none).tables)
  ints : ∀ j, j < l.length → I64 (l.getD j none)
theorem MapsAt.below {w w' : World} {v : Value} {l : List M} {T : Nat → Value} (h : MapsAt w v l T) (hb : Below w.heap.size w w') : MapsAt w' v l T :=
  ⟨h.row.below hb, fun j hj => (h.tabs j hj).below hb, h.ints⟩
theorem six {w wr : World} {b o j : Nat} {x : M} {tv : Value} (hbl : b < w.heap.size) (hbw : Below w.heap.size w wr) (h : ∀ k u, (pmC x tv)[k]? = some u → w.cell? ⟨b, o + j * 6 + k, Option.none⟩ = some u) :
    wr.cell? ⟨b, o + j * 6, Option.none⟩ = some (.int .i64 x.kind) ∧ wr.cell? ⟨b, o + j * 6 + 1, Option.none⟩ = some (.int .i64 x.number) ∧ wr.cell? ⟨b, o + j * 6 + 2, Option.none⟩ = some tv ∧
    wr.cell? ⟨b, o + j * 6 + 3, Option.none⟩ = some (.int .i64 x.file) ∧ wr.cell? ⟨b, o + j * 6 + 4, Option.none⟩ = some (.int .i64 x.mirror) ∧ wr.cell? ⟨b, o + j * 6 + 5, Option.none⟩ = some (.int .i64 x.bitmap) := by
  have g : ∀ k u, (pmC x tv)[k]? = some u → wr.cell? ⟨b, o + j * 6 + k, Option.none⟩ = some u := fun k u hu => (hbw.cell (p := ⟨b, o + j * 6 + k, Option.none⟩) hbl).trans (h k u hu)
  exact ⟨g 0 _ rfl, g 1 _ rfl, g 2 _ rfl, g 3 _ rfl, g 4 _ rfl, g 5 _ rfl⟩
/-- Few maps. -/
def Few (l : List M) : Prop := l.length ≤ 8 ∧ ∀ j, j < l.length → (l.getD j none).tables.length ≤ 8
instance : Inhabited M := ⟨none⟩
end Pm

theorem all_snocM {p : Pm.M → Bool} {l : List Pm.M} {i : Nat} (hi : i < l.length) (h : (l.take i).all p = true) (hp : p (l.getD i Pm.none) = true) : (l.take (i + 1)).all p = true := by
  rw [List.take_succ_eq_append_getElem hi, List.all_append, h]
  simp [List.getD, hi] at hp
  simp [hp]
theorem all_failM {p : Pm.M → Bool} {l : List Pm.M} {i : Nat} (hi : i < l.length) (hp : p (l.getD i Pm.none) = false) : l.all p = false := by
  rw [Bool.eq_false_iff]
  intro h
  have := List.all_eq_true.1 h (l.getD i Pm.none) (by simp [List.getD, hi])
  rw [hp] at this
  cases this

set_option maxHeartbeats 1600000 in
set_option maxRecDepth 100000 in
/-- partitionmap.all$1. -/
theorem notValid_any (x : Pm.M) (tv : Value) (w : World) (hr : Kit.RowS w tv (Kit.izs x.tables)) (hx : Pm.I64 x) (hl : x.tables.length ≤ 17592186044413) :
    Calls Tryz.prog 264 #[Pm.pmV x tv] w fun e w' => e = .returned (.bool (!Pm.valid x)) ∧ Below w.heap.size w w' := by
  have CV := Lib.hid (fun W h => valid_any x tv W h hx hl)
  have HR := Lib.hid (hr.below ((Below.refl _ w).alloc (Nat.le_refl _) (.cells #[.int .i64 x.kind, .int .i64 x.number, tv, .int .i64 x.file, .int .i64 x.mirror, .int .i64 x.bitmap] 146)))
  generalize Pm.valid x = V at *
  unfold Pm.pmV at *
  obtain ⟨⟨A, c, rfl, _, _, _⟩, _⟩ := hr
  obtain ⟨k, n, t, f, m, b⟩ := x
  simp only [] at *
  clear hx hl
  go_enter Tryz.func264, Tryz.ntmps264
  go_wp2_with fail
  with_reducible refine (CV.out _ HR.out).mono ?_
  rintro e w2 ⟨rfl, hb2⟩
  go_wp2_with fail
  go_ret
  exact ⟨rfl, ((Below.refl _ w).alloc (Nat.le_refl _) _).trans (hb2.mono (by simp))⟩

set_option maxHeartbeats 1600000 in
set_option maxRecDepth 100000 in
/-- slices.IndexFunc over maps, asked for what is not valid. -/
theorem indexMaps_any (v : Value) (l : List Pm.M) (T : Nat → Value) (w : World) (hm : Pm.MapsAt w v l T) (hf : Pm.Few l) :
    Calls Tryz.prog 266 #[v, .func (.func 264) #[] #[]] w fun e w' => ∃ r : Int, e = .returned (.int .i64 r) ∧ -1 ≤ r ∧ (0 ≤ r ↔ l.all Pm.valid = false) ∧ Below w.heap.size w w' := by
  have HM := Lib.hid hm
  have HF := Lib.hid hf
  have hl8 := hf.1
  obtain ⟨A, c, rfl, hlc, hcm, hcells⟩ := hm.row
  have HCE := Lib.hid hcells
  clear hcells hm hf
  unfold maxLen at hcm
  go_enter Tryz.func266, Tryz.ntmps266
  go_wp2_with fail
  go_loopw [5, 8] (fun _ iv wr => ∃ j : Nat, j ≤ l.length ∧ iv = .int .i64 j ∧ Hid ((l.take j).all Pm.valid = true) ∧ Below w.heap.size w wr) (fun _ iv _ => l.length - (intOf iv).toNat)
  case atStart => exact ⟨0, by omega, rfl, Lib.hid rfl, Below.refl _ _⟩
  case round =>
    obtain ⟨j, hj, rfl, HA, hbw⟩ := hrel
    by_cases hlt : j < l.length
    · obtain ⟨b, o, rfl, hbl, hc⟩ := HCE.out (by omega)
      obtain ⟨c0, c1, c2, c3, c4, c5⟩ := Pm.six hbl hbw (hc j hlt)
      have hr := (HM.out.tabs j hlt).below hbw
      have CP := Lib.hid (fun W h => notValid_any (l.getD j Pm.none) (T j) W h (HM.out.ints j hlt) (Nat.le_trans (HF.out.2 j hlt) (by decide)))
      have hall := all_snocM (p := Pm.valid) hlt HA.out
      have hfail := all_failM (p := Pm.valid) hlt
      clear hc
      generalize l.getD j Pm.none = x at *
      generalize T j = tv at *
      have HRT := Lib.hid hr
      obtain ⟨⟨A', c', rfl, _, _, _⟩, _⟩ := hr
      unfold Pm.pmV at CP
      cases hp : Pm.valid x with
      | true =>
        have HN := Lib.hid (hall hp)
        rw [hp] at CP
        clear hp hall hfail
        obtain ⟨k, n, t, f, m, bb⟩ := x
        simp only [] at *
        go_wp2_with fail
        with_reducible refine (CP.out _ HRT.out).mono ?_
        rintro e w2 ⟨rfl, hb2⟩
        go_wp2_with fail
        go_roundw
        case rel => exact ⟨j + 1, by omega, by go_num, HN, hbw.trans (hb2.mono hbw.size)⟩
        case measure => simp [intOf]; omega
      | false =>
        have HN := Lib.hid (hfail hp)
        rw [hp] at CP
        clear hp hall hfail
        obtain ⟨k, n, t, f, m, bb⟩ := x
        simp only [] at *
        go_wp2_with fail
        with_reducible refine (CP.out _ HRT.out).mono ?_
        rintro e w2 ⟨rfl, hb2⟩
        go_wp2_with fail
        go_ret
        exact ⟨_, rfl, by omega, ⟨fun _ => HN.out, fun _ => by omega⟩, hbw.trans (hb2.mono hbw.size)⟩
    · obtain rfl : j = l.length := by omega
      have ha := HA.out
      rw [List.take_length] at ha
      have HH := Lib.hid ha
      clear ha
      go_wp2_with fail
      go_ret
      exact ⟨_, rfl, by decide, ⟨fun h => absurd h (by decide), fun h => by rw [HH.out] at h; cases h⟩, hbw⟩

set_option maxHeartbeats 1600000 in
set_option maxRecDepth 100000 in
/-- slices.ContainsFunc over maps, asked for what is not valid. -/
theorem containsMaps_any (v : Value) (l : List Pm.M) (T : Nat → Value) (w : World) (hm : Pm.MapsAt w v l T) (hf : Pm.Few l) :
    Calls Tryz.prog 142 #[v, .func (.func 264) #[] #[]] w fun e w' => e = .returned (.bool (!l.all Pm.valid)) ∧ Below w.heap.size w w' := by
  have CI := Lib.hid (indexMaps_any v l T w hm hf)
  obtain ⟨A, c, rfl, _, _, _⟩ := hm.row
  clear hm hf
  cases hp : l.all Pm.valid with
  | true =>
    rw [hp] at CI
    go_enter Tryz.func142, Tryz.ntmps142
    go_wp2_with fail
    with_reducible refine CI.out.mono ?_
    rintro e w2 ⟨r, rfl, hr, hi, hb2⟩
    have hr0 : r < 0 := by
      rcases Int.lt_or_le r 0 with h | h
      · exact h
      · have := hi.1 h; cases this
    clear hi
    go_wp2_with fail
    go_ret
    first | exact ⟨rfl, hb2⟩ | (refine ⟨congrArg (fun b => Ending.returned (.bool b)) ?_, hb2⟩; simp <;> omega)
  | false =>
    rw [hp] at CI
    go_enter Tryz.func142, Tryz.ntmps142
    go_wp2_with fail
    with_reducible refine CI.out.mono ?_
    rintro e w2 ⟨r, rfl, hr, hi, hb2⟩
    have hr0 : 0 ≤ r := hi.2 (by first | rfl | trivial)
    clear hi
    go_wp2_with fail
    go_ret
    first | exact ⟨rfl, hb2⟩ | (refine ⟨congrArg (fun b => Ending.returned (.bool b)) ?_, hb2⟩; simp <;> omega)

set_option maxHeartbeats 1600000 in
set_option maxRecDepth 100000 in
/-- partitionmap.all. -/
theorem all_any (v : Value) (l : List Pm.M) (T : Nat → Value) (w : World) (hm : Pm.MapsAt w v l T) (hf : Pm.Few l) :
    Calls Tryz.prog 141 #[v] w fun e w' => e = .returned (.bool (Pm.all l)) ∧ Below w.heap.size w w' := by
  have CC := Lib.hid (fun W h => containsMaps_any v l T W h hf)
  have HM := Lib.hid hm
  obtain ⟨A, c, rfl, _, _, _⟩ := hm.row
  clear hm hf
  by_cases h4 : l.length ≤ 4
  · have HR := Lib.hid (show Pm.all l = l.all Pm.valid by unfold Pm.all; rw [decide_eq_true h4]; rfl)
    have d4 : decide ((l.length : Int) ≤ 4) = true := decide_eq_true (by omega)
    generalize l.all Pm.valid = q at *
    go_enter Tryz.func141, Tryz.ntmps141
    go_wp2_with fail
    with_reducible refine (CC.out _ HM.out).mono ?_
    rintro e w2 ⟨rfl, hb2⟩
    go_wp2_with fail
    go_ret
    rw [HR.out]
    cases q <;> exact ⟨rfl, hb2⟩
  · have HR := Lib.hid (show Pm.all l = false by unfold Pm.all; rw [decide_eq_false h4]; rfl)
    have d4 : decide ((l.length : Int) ≤ 4) = false := decide_eq_false (by omega)
    go_enter Tryz.func141, Tryz.ntmps141
    go_wp2_with fail
    go_ret
    rw [HR.out]
    exact ⟨rfl, Below.refl _ _⟩
end Go.Proofs.YtiekfipjbmdkpaaGreatDoor
namespace Go.Proofs.YtiekfipjbmdkpaaGreatDoor
open Go.RowKit Go.Maps
namespace Kit
/-- A store of a map's literal. -/
theorem wpList_insert_own {H : Type} {P : Program} (w : World) {ops : Array Oper} {rest : List Oper} {o : Oper} {a : Act} {Q : Exit → Act → World → Prop}
    (hg : o.guard = none) (m x v : Operand) (t : TypeId) (hop : o.op = Op.insert t m x v)
    (k e : TypeId) (K : Keyed P k) (ht : P.underlying t = some (.map k e)) (R : Value → Option (DataW H × List MemPlace)) (b n : Nat) (D : DataW H)
    (hm : a.eval m = .map (some b)) (hown : w.ownsMap P k R b n D) (hn : n < maxLen) (key val : Value) (kl : Lit) (hx : a.eval x = key) (hv : a.eval v = val) (hkey : keyOf P k key = some kl)
    (d : DataW H) (ps : List MemPlace) (hval : R val = some (d, ps))
    (hK : ∀ w', w'.ownsMap P k R b (n + 1) (D.put kl d) → w.grownBy w' (some b) → wpList P ops Q rest (a.put o.dst undef) w') :
    wpList P ops Q (o :: rest) a w := by
  refine wpList_plain hg fun K' hK' => ?_
  obtain ⟨w', hrun, r1, r2⟩ := hown.update K ht hn hkey hval
  unfold Oper.wp
  simp [execOp, hop, hm, hx, hv, hrun, Result.andThen]
  exact hK' _ _ (hK w' r1 r2)
end Kit

theorem keyedInt : Keyed Tryz.prog 3 := int_keyed Tryz.underlying3
abbrev SMap (w : World) (b n : Nat) (D : DataW Unit) : Prop := w.ownsMap Tryz.prog 3 (plainElem Tryz.prog 9) b n D
/-- What the map of identifiers reads as. -/
def idD : DataW Unit := (((DataW.map []).put (.int .i64 1) (.lit (.string Pm.nameV))).put (.int .i64 2) (.lit (.string Pm.nameS))).put (.int .i64 3) (.lit (.string Pm.nameM))

theorem elemS (l : List UInt8) (h : l.length ≤ maxLen) : plainElem (H := Unit) Tryz.prog 9 (.string ⟨l.toArray⟩) = some (.lit (.string l), []) := by
  have := plainElem_string (H := Unit) (P := Tryz.prog) (e := 9) Tryz.underlying9 (s := ⟨l.toArray⟩) (by simpa [ByteArray.size] using h)
  simpa using this
set_option maxHeartbeats 1600000 in
set_option maxRecDepth 100000 in
/-- partitionmap.identifiers. -/
theorem identifiers_any (w : World) : Calls Tryz.prog 263 #[] w fun e w' => ∃ b, e = .returned (.map (some b)) ∧ w.heap.size ≤ b ∧ SMap w' b 3 idD ∧ Below w.heap.size w w' := by
  have hmm := @run_makeMap Tryz.prog
  have h0 : SMap (w.alloc (.map #[] 0)) w.heap.size 0 (.map []) := World.ownsMap_made _ _ _ _
  have H0 := Lib.hid h0
  clear h0
  go_enter Tryz.func263, Tryz.ntmps263
  go_wp2_with (refine Kit.wpList_insert_own _ rfl (.tmp 1) _ _ _ rfl 3 9 keyedInt (by kernel_rfl) _ w.heap.size 0 _ rfl H0.out (by unfold maxLen; omega) (.int .i64 1) (.string ⟨Pm.nameV.toArray⟩) (.int .i64 1) rfl rfl (keyOf_int_mk Tryz.underlying3 (by decide)) _ [] (elemS Pm.nameV (by decide)) ?_)
  intro w1 hown1 hg1
  have H1 := Lib.hid hown1
  clear hown1
  go_wp2_with (refine Kit.wpList_insert_own _ rfl (.tmp 1) _ _ _ rfl 3 9 keyedInt (by kernel_rfl) _ w.heap.size 1 _ rfl H1.out (by unfold maxLen; omega) (.int .i64 2) (.string ⟨Pm.nameS.toArray⟩) (.int .i64 2) rfl rfl (keyOf_int_mk Tryz.underlying3 (by decide)) _ [] (elemS Pm.nameS (by decide)) ?_)
  intro w2 hown2 hg2
  have H2 := Lib.hid hown2
  clear hown2
  go_wp2_with (refine Kit.wpList_insert_own _ rfl (.tmp 1) _ _ _ rfl 3 9 keyedInt (by kernel_rfl) _ w.heap.size 2 _ rfl H2.out (by unfold maxLen; omega) (.int .i64 3) (.string ⟨Pm.nameM.toArray⟩) (.int .i64 3) rfl rfl (keyOf_int_mk Tryz.underlying3 (by decide)) _ [] (elemS Pm.nameM (by decide)) ?_)
  intro w3 hown3 hg3
  have H3 := Lib.hid hown3
  clear hown3
  have hb : Below w.heap.size w w3 := ((((Below.refl _ w).alloc (Nat.le_refl _) _).grown hg1 (by simp) (by simp)).grown hg2 (by have := hg1.size; simp at this; omega) (by simp)).grown hg3 (by have := hg1.size; have := hg2.size; simp at *; omega) (by simp)
  clear hg1 hg2 hg3
  go_wp2_with fail
  go_ret
  exact ⟨_, rfl, Nat.le_refl _, H3.out, hb⟩

end Go.Proofs.YtiekfipjbmdkpaaGreatDoor
namespace Go.Proofs.YtiekfipjbmdkpaaGreatDoor
open Go.RowKit Go.Maps
namespace Kit
end Kit
abbrev VMap (w : World) (b n : Nat) (D : DataW Value) : Prop := w.ownsMap Tryz.prog 3 asIs b n D
def four4 (v0 v1 v2 v3 : Value) : DataW Value := ((((DataW.map []).put (.int .i64 0) (.held v0)).put (.int .i64 1) (.held v1)).put (.int .i64 2) (.held v2)).put (.int .i64 3) (.held v3)
theorem four4_at (v0 v1 v2 v3 z : Value) (k : Int) : (four4 v0 v1 v2 v3).atKey (.int .i64 k) (.held z) = .held (if k = 0 then v0 else if k = 1 then v1 else if k = 2 then v2 else if k = 3 then v3 else z) := by
  have e : four4 v0 v1 v2 v3 = .map [(.int .i64 0, .held v0), (.int .i64 1, .held v1), (.int .i64 2, .held v2), (.int .i64 3, .held v3)] := rfl
  rw [e]
  by_cases h0 : k = 0
  · subst h0; rfl
  · by_cases h1 : k = 1
    · subst h1; rfl
    · by_cases h2 : k = 2
      · subst h2; rfl
      · by_cases h3 : k = 3
        · subst h3; rfl
        · rw [if_neg h0, if_neg h1, if_neg h2, if_neg h3]
          simp [DataW.atKey, List.find?, Lit.sameKey, Ne.symm h0, Ne.symm h1, Ne.symm h2, Ne.symm h3]
def slV (b n : Nat) : Value := .slice (some ⟨b, 0, none⟩) n n

set_option maxHeartbeats 3200000 in
set_option maxRecDepth 100000 in
/-- partitionmap.kinds. -/
theorem kinds_any (w : World) : Calls Tryz.prog 144 #[] w fun e w' => ∃ b b0 b1 b2 b3, e = .returned (.map (some b)) ∧ w.heap.size ≤ b ∧ w.heap.size ≤ b0 ∧ w.heap.size ≤ b1 ∧ w.heap.size ≤ b2 ∧ w.heap.size ≤ b3 ∧ VMap w' b 4 (four4 (slV b0 1) (slV b1 2) (slV b2 1) (slV b3 2)) ∧ Kit.Cl w' b0 [0] ∧ Kit.Cl w' b1 [0, 1] ∧ Kit.Cl w' b2 [2] ∧ Kit.Cl w' b3 [0, 3] ∧ Below w.heap.size w w' := by
  have hmm := @run_makeMap Tryz.prog
  have h0 : VMap (w.alloc (.map #[] 0)) w.heap.size 0 (.map []) := World.ownsMap_made _ _ _ _
  have H0 := Lib.hid (h0.alloc (.cells #[.int .i64 0] 3))
  clear h0
  go_enter Tryz.func144, Tryz.ntmps144
  go_wp2_with (refine Kit.wpList_insert_own _ rfl (.tmp 1) _ _ _ rfl 3 68 keyedInt (by kernel_rfl) _ w.heap.size 0 _ rfl H0.out (by unfold maxLen; omega) (.int .i64 0) _ (.int .i64 0) rfl rfl (keyOf_int_mk Tryz.underlying3 (by decide)) _ [] rfl ?_)
  intro w1 hown1 hg1
  have k0 : Kit.Cl w1 (w.heap.size + 1) [0] := by
    have h := (Kit.Cl.new (w.alloc (.map #[] 0)) [0] 3).grown hg1 (by simp)
    rw [show (w.alloc (.map #[] 0)).heap.size = w.heap.size + 1 by simp] at h
    exact h
  have hb1 : Below w.heap.size w w1 := (((Below.refl _ w).alloc (Nat.le_refl _) _).alloc (by simp) _).grown hg1 (by simp; omega) (by simp)
  have s1 : w.heap.size + 2 ≤ w1.heap.size := by have := hg1.size; simp at this; omega
  have H1 := Lib.hid (hown1.alloc (.cells #[.int .i64 0, .int .i64 1] 3))
  clear hown1 hg1
  go_wp2_with (refine Kit.wpList_insert_own _ rfl (.tmp 1) _ _ _ rfl 3 68 keyedInt (by kernel_rfl) _ w.heap.size 1 _ rfl H1.out (by unfold maxLen; omega) (.int .i64 1) _ (.int .i64 1) rfl rfl (keyOf_int_mk Tryz.underlying3 (by decide)) _ [] rfl ?_)
  intro w2 hown2 hg2
  have k1 := (Kit.Cl.new w1 [0, 1] 3).grown hg2 (by simp; omega)
  have k0 := (k0.below ((Below.refl _ w1).alloc (Nat.le_refl _) _)).grown hg2 (by simp)
  have hb2 : Below w.heap.size w w2 := (hb1.alloc hb1.size _).grown hg2 (by simp; omega) (by simp)
  have s2 : w1.heap.size + 1 ≤ w2.heap.size := by have := hg2.size; simp at this; omega
  have H2 := Lib.hid (hown2.alloc (.cells #[.int .i64 2] 3))
  clear hown2 hg2 hb1
  go_wp2_with (refine Kit.wpList_insert_own _ rfl (.tmp 1) _ _ _ rfl 3 68 keyedInt (by kernel_rfl) _ w.heap.size 2 _ rfl H2.out (by unfold maxLen; omega) (.int .i64 2) _ (.int .i64 2) rfl rfl (keyOf_int_mk Tryz.underlying3 (by decide)) _ [] rfl ?_)
  intro w3 hown3 hg3
  have k2 := (Kit.Cl.new w2 [2] 3).grown hg3 (by simp; omega)
  have k1 := (k1.below ((Below.refl _ w2).alloc (Nat.le_refl _) _)).grown hg3 (by simp; omega)
  have k0 := (k0.below ((Below.refl _ w2).alloc (Nat.le_refl _) _)).grown hg3 (by simp)
  have hb3 : Below w.heap.size w w3 := (hb2.alloc hb2.size _).grown hg3 (by simp; omega) (by simp)
  have s3 : w2.heap.size + 1 ≤ w3.heap.size := by have := hg3.size; simp at this; omega
  have H3 := Lib.hid (hown3.alloc (.cells #[.int .i64 0, .int .i64 3] 3))
  clear hown3 hg3 hb2
  go_wp2_with (refine Kit.wpList_insert_own _ rfl (.tmp 1) _ _ _ rfl 3 68 keyedInt (by kernel_rfl) _ w.heap.size 3 _ rfl H3.out (by unfold maxLen; omega) (.int .i64 3) _ (.int .i64 3) rfl rfl (keyOf_int_mk Tryz.underlying3 (by decide)) _ [] rfl ?_)
  intro w4 hown4 hg4
  have k3 := (Kit.Cl.new w3 [0, 3] 3).grown hg4 (by simp; omega)
  have k2 := (k2.below ((Below.refl _ w3).alloc (Nat.le_refl _) _)).grown hg4 (by simp; omega)
  have k1 := (k1.below ((Below.refl _ w3).alloc (Nat.le_refl _) _)).grown hg4 (by simp; omega)
  have k0 := (k0.below ((Below.refl _ w3).alloc (Nat.le_refl _) _)).grown hg4 (by simp)
  have hb4 : Below w.heap.size w w4 := (hb3.alloc hb3.size _).grown hg4 (by simp; omega) (by simp)
  have H4 := Lib.hid hown4
  have HK := Lib.hid (And.intro k0 (And.intro k1 (And.intro k2 k3)))
  clear hown4 hg4 hb3 k0 k1 k2 k3
  go_wp2_with fail
  go_ret
  obtain ⟨k0, k1, k2, k3⟩ := HK.out
  exact ⟨_, _, _, _, _, rfl, Nat.le_refl _, by simp, by omega, by omega, by omega, H4.out, k0, k1, k2, k3, hb4⟩
end Go.Proofs.YtiekfipjbmdkpaaGreatDoor
namespace Go.Proofs.YtiekfipjbmdkpaaGreatDoor
open Go.RowKit
namespace Pm
def isNum (nm : Int) (x : M) : Bool := decide (x.number = nm)
/-- A captured slice of maps, of which the first one has a number. -/
def Cap (w : World) (g : Nat) (nm : Int) : Prop := ∃ b o n c, 0 < n ∧ w.cell? ⟨g, 0, Option.none⟩ = some (.slice (some ⟨b, o, Option.none⟩) n c) ∧ w.cell? ⟨b, o + 1, Option.none⟩ = some (.int .i64 nm)
theorem Cap.below {w w' : World} {g : Nat} {nm : Int} (h : Cap w g nm) (hb : Below w.heap.size w w') : Cap w' g nm := by
  obtain ⟨b, o, n, c, h0, h1, h2⟩ := h
  exact ⟨b, o, n, c, h0, (hb.cell (World.block_lt_of_cell? _ _ h1)).trans h1, (hb.cell (World.block_lt_of_cell? _ _ h2)).trans h2⟩
end Pm

set_option maxHeartbeats 1600000 in
set_option maxRecDepth 100000 in
/-- partitionmap.Kind$2. -/
theorem kindIs_any (x : Pm.M) (tv : Value) (k : Int) (w : World) (hr : Kit.RowS w tv (Kit.izs x.tables)) :
    Calls Tryz.prog 146 #[Pm.pmV x tv, .int .i64 k] w fun e w' => e = .returned (.bool (decide (x.kind = k))) ∧ Below w.heap.size w w' := by
  unfold Pm.pmV at *
  obtain ⟨⟨A, c, rfl, _, _, _⟩, _⟩ := hr
  obtain ⟨k', n, t, f, m, b⟩ := x
  simp only [] at *
  go_enter Tryz.func146, Tryz.ntmps146
  go_wp2_with fail
  go_ret
  exact ⟨rfl, (Below.refl _ w).alloc (Nat.le_refl _) _⟩

set_option maxHeartbeats 1600000 in
set_option maxRecDepth 100000 in
/-- partitionmap.Kind$1. -/
theorem notNum_any (x : Pm.M) (tv : Value) (g : Nat) (nm : Int) (w : World) (hr : Kit.RowS w tv (Kit.izs x.tables)) (hg : Pm.Cap w g nm) :
    Calls Tryz.prog 143 #[Pm.pmV x tv, .pointer (some ⟨g, 0, none⟩)] w fun e w' => e = .returned (.bool (!Pm.isNum nm x)) ∧ Below w.heap.size w w' := by
  unfold Pm.pmV Pm.isNum at *
  obtain ⟨⟨A, c, rfl, _, _, _⟩, _⟩ := hr
  obtain ⟨k', n, t, f, m, b⟩ := x
  simp only [] at *
  have hba := fun (o : Obj) => (Below.refl w.heap.size w).alloc (Nat.le_refl _) o
  obtain ⟨b', o', n', c', h0, h1, h2⟩ := hg
  have g1 := fun (o : Obj) => ((hba o).cell (World.block_lt_of_cell? _ _ h1)).trans h1
  have g2 := fun (o : Obj) => ((hba o).cell (World.block_lt_of_cell? _ _ h2)).trans h2
  clear hba h1 h2
  by_cases hq : n = nm
  · have hd : decide (n = nm) = true := decide_eq_true hq
    rw [hd]
    go_enter Tryz.func143, Tryz.ntmps143
    go_wp2_with fail
    go_quiet (fail)
    go_wp2_with fail
    go_ret
    first | exact ⟨rfl, Kit.Below.drewN ((Below.refl _ w).alloc (Nat.le_refl _) _) _⟩ | (refine ⟨congrArg (fun q => Ending.returned (.bool q)) ?_, Kit.Below.drewN ((Below.refl _ w).alloc (Nat.le_refl _) _) _⟩; simp [bne, hq])
  · have hd : decide (n = nm) = false := decide_eq_false hq
    rw [hd]
    go_enter Tryz.func143, Tryz.ntmps143
    go_wp2_with fail
    go_quiet (fail)
    go_wp2_with fail
    go_ret
    first | exact ⟨rfl, Kit.Below.drewN ((Below.refl _ w).alloc (Nat.le_refl _) _) _⟩ | (refine ⟨congrArg (fun q => Ending.returned (.bool q)) ?_, Kit.Below.drewN ((Below.refl _ w).alloc (Nat.le_refl _) _) _⟩; simp [bne, hq])

set_option maxHeartbeats 1600000 in
set_option maxRecDepth 100000 in
/-- slices.IndexFunc over maps, asked for another number. -/
theorem indexNum_any (v : Value) (l : List Pm.M) (T : Nat → Value) (g : Nat) (nm : Int) (w : World) (hm : Pm.MapsAt w v l T) (hf : Pm.Few l) (hg : 0 < l.length → Pm.Cap w g nm) :
    Calls Tryz.prog 266 #[v, .func (.func 143) #[] #[.pointer (some ⟨g, 0, none⟩)]] w fun e w' => ∃ r : Int, e = .returned (.int .i64 r) ∧ -1 ≤ r ∧ (0 ≤ r ↔ l.all (Pm.isNum nm) = false) ∧ Below w.heap.size w w' := by
  have HM := Lib.hid hm
  have HG := Lib.hid hg
  have hl8 := hf.1
  obtain ⟨A, c, rfl, hlc, hcm, hcells⟩ := hm.row
  have HCE := Lib.hid hcells
  clear hcells hm hf hg
  unfold maxLen at hcm
  go_enter Tryz.func266, Tryz.ntmps266
  go_wp2_with fail
  go_loopw [5, 8] (fun _ iv wr => ∃ j : Nat, j ≤ l.length ∧ iv = .int .i64 j ∧ Hid ((l.take j).all (Pm.isNum nm) = true) ∧ Below w.heap.size w wr) (fun _ iv _ => l.length - (intOf iv).toNat)
  case atStart => exact ⟨0, by omega, rfl, Lib.hid rfl, Below.refl _ _⟩
  case round =>
    obtain ⟨j, hj, rfl, HA, hbw⟩ := hrel
    by_cases hlt : j < l.length
    · obtain ⟨b, o, rfl, hbl, hc⟩ := HCE.out (by omega)
      obtain ⟨c0, c1, c2, c3, c4, c5⟩ := Pm.six hbl hbw (hc j hlt)
      have hr := (HM.out.tabs j hlt).below hbw
      have CP := Lib.hid (fun W h => notNum_any (l.getD j Pm.none) (T j) g nm W h)
      have HGr := Lib.hid ((HG.out (by omega)).below hbw)
      have hall := all_snocM (p := (Pm.isNum nm)) hlt HA.out
      have hfail := all_failM (p := (Pm.isNum nm)) hlt
      clear hc
      generalize l.getD j Pm.none = x at *
      generalize T j = tv at *
      have HRT := Lib.hid hr
      obtain ⟨⟨A', c', rfl, _, _, _⟩, _⟩ := hr
      unfold Pm.pmV at CP
      cases hp : (Pm.isNum nm) x with
      | true =>
        have HN := Lib.hid (hall hp)
        rw [hp] at CP
        clear hp hall hfail
        obtain ⟨k, n, t, f, m, bb⟩ := x
        simp only [] at *
        go_wp2_with fail
        with_reducible refine (CP.out _ HRT.out HGr.out).mono ?_
        rintro e w2 ⟨rfl, hb2⟩
        go_wp2_with fail
        go_roundw
        case rel => exact ⟨j + 1, by omega, by go_num, HN, hbw.trans (hb2.mono hbw.size)⟩
        case measure => simp [intOf]; omega
      | false =>
        have HN := Lib.hid (hfail hp)
        rw [hp] at CP
        clear hp hall hfail
        obtain ⟨k, n, t, f, m, bb⟩ := x
        simp only [] at *
        go_wp2_with fail
        with_reducible refine (CP.out _ HRT.out HGr.out).mono ?_
        rintro e w2 ⟨rfl, hb2⟩
        go_wp2_with fail
        go_ret
        exact ⟨_, rfl, by omega, ⟨fun _ => HN.out, fun _ => by omega⟩, hbw.trans (hb2.mono hbw.size)⟩
    · obtain rfl : j = l.length := by omega
      have ha := HA.out
      rw [List.take_length] at ha
      have HH := Lib.hid ha
      clear ha
      go_wp2_with fail
      go_ret
      exact ⟨_, rfl, by decide, ⟨fun h => absurd h (by decide), fun h => by rw [HH.out] at h; cases h⟩, hbw⟩

set_option maxHeartbeats 1600000 in
set_option maxRecDepth 100000 in
/-- slices.ContainsFunc over maps, asked for another number. -/
theorem containsNum_any (v : Value) (l : List Pm.M) (T : Nat → Value) (g : Nat) (nm : Int) (w : World) (hm : Pm.MapsAt w v l T) (hf : Pm.Few l) (hg : 0 < l.length → Pm.Cap w g nm) :
    Calls Tryz.prog 142 #[v, .func (.func 143) #[] #[.pointer (some ⟨g, 0, none⟩)]] w fun e w' => e = .returned (.bool (!l.all (Pm.isNum nm))) ∧ Below w.heap.size w w' := by
  have CI := Lib.hid (indexNum_any v l T g nm w hm hf hg)
  obtain ⟨A, c, rfl, _, _, _⟩ := hm.row
  clear hm hf hg
  cases hp : l.all (Pm.isNum nm) with
  | true =>
    rw [hp] at CI
    go_enter Tryz.func142, Tryz.ntmps142
    go_wp2_with fail
    with_reducible refine CI.out.mono ?_
    rintro e w2 ⟨r, rfl, hr, hi, hb2⟩
    have hr0 : r < 0 := by
      rcases Int.lt_or_le r 0 with h | h
      · exact h
      · have := hi.1 h; cases this
    clear hi
    go_wp2_with fail
    go_ret
    first | exact ⟨rfl, hb2⟩ | (refine ⟨congrArg (fun b => Ending.returned (.bool b)) ?_, hb2⟩; simp <;> omega)
  | false =>
    rw [hp] at CI
    go_enter Tryz.func142, Tryz.ntmps142
    go_wp2_with fail
    with_reducible refine CI.out.mono ?_
    rintro e w2 ⟨r, rfl, hr, hi, hb2⟩
    have hr0 : 0 ≤ r := hi.2 (by first | rfl | trivial)
    clear hi
    go_wp2_with fail
    go_ret
    first | exact ⟨rfl, hb2⟩ | (refine ⟨congrArg (fun b => Ending.returned (.bool b)) ?_, hb2⟩; simp <;> omega)

end Go.Proofs.YtiekfipjbmdkpaaGreatDoor
namespace Go.Proofs.YtiekfipjbmdkpaaGreatDoor
open Go.RowKit

set_option maxHeartbeats 1600000 in
set_option maxRecDepth 100000 in
/-- slices.EqualFunc of maps and kinds. -/
theorem equalFn_any (v : Value) (l : List Pm.M) (T : Nat → Value) (kv : Value) (ks : List Int) (w : World) (hm : Pm.MapsAt w v l T) (hf : Pm.Few l) (hk : Kit.Row w kv (Kit.izs ks)) :
    Calls Tryz.prog 145 #[v, kv, .func (.func 146) #[] #[]] w fun e w' => e = .returned (.bool (decide (l.map Pm.M.kind = ks))) ∧ Below w.heap.size w w' := by
  have HM := Lib.hid hm
  have HK := Lib.hid hk
  have hl8 := hf.1
  obtain ⟨A, c, rfl, hlc, hcm, hcells⟩ := hm.row
  obtain ⟨A', c', rfl, hlc', hcm', _⟩ := hk
  rw [Kit.izs_length] at *
  have HCE := Lib.hid hcells
  clear hcells hm hf
  unfold maxLen at hcm hcm'
  by_cases hlen : l.length = ks.length
  · have HR := Lib.hid (show (∀ q : Bool, decide (l.map Pm.M.kind = ks) = q → decide (l.map Pm.M.kind = ks) = q) from fun _ h => h)
    have HS := Lib.hid (show (∀ j, j < l.length → ¬ (l.getD j Pm.none).kind = ks.getD j 0 → decide (l.map Pm.M.kind = ks) = false) from fun j hj hne => decide_eq_false fun e => hne (by rw [← e]; simp [List.getD, hj]))
    have HT := Lib.hid (show (l.map Pm.M.kind).take l.length = ks.take l.length → decide (l.map Pm.M.kind = ks) = true from fun h => decide_eq_true (by rwa [List.take_of_length_le (by simp), List.take_of_length_le (by omega)] at h))
    have HU := Lib.hid (show ∀ j, j < l.length → (l.getD j Pm.none).kind = ks.getD j 0 → (l.map Pm.M.kind).take j = ks.take j → (l.map Pm.M.kind).take (j + 1) = ks.take (j + 1) from fun j hj he ht => by
      rw [List.take_succ_eq_append_getElem (by simpa using hj), List.take_succ_eq_append_getElem (by omega), ht]
      have hj' : j < ks.length := by omega
      simp [List.getD, hj, hj'] at he
      simp [he])
    clear HR
    generalize decide (l.map Pm.M.kind = ks) = R at *
    go_enter Tryz.func145, Tryz.ntmps145
    go_wp2_with fail
    go_loopw [7, 8, 9, 17] (fun _ _ _ iv wr => ∃ j : Nat, j ≤ l.length ∧ iv = .int .i64 j ∧ Hid ((l.map Pm.M.kind).take j = ks.take j) ∧ Below w.heap.size w wr) (fun _ _ _ iv _ => l.length - (intOf iv).toNat)
    case atStart => exact ⟨0, by omega, rfl, Lib.hid rfl, Below.refl _ _⟩
    case round =>
      obtain ⟨j, hj, rfl, HA, hbw⟩ := hrel
      by_cases hlt : j < l.length
      · obtain ⟨b, o, rfl, hbl, hc⟩ := HCE.out (by omega)
        obtain ⟨c0, c1, c2, c3, c4, c5⟩ := Pm.six hbl hbw (hc j hlt)
        have hr := (HM.out.tabs j hlt).below hbw
        have hltk : j < ks.length := by omega
        obtain ⟨b', o', c'', hv', hbk, hcj⟩ := HK.out.at_izs hltk
        obtain ⟨rfl, _, rfl⟩ : A' = some ⟨b', o', none⟩ ∧ ks.length = ks.length ∧ c' = c'' := by simpa using hv'
        clear hv'
        have hba := fun (o : Obj) => hbw.trans (((Below.refl wr.heap.size wr).alloc (Nat.le_refl _) o).mono hbw.size)
        have k0 := fun (o : Obj) => ((hba o).cell (p := ⟨b', o' + j, none⟩) hbk).trans hcj
        have CP := Lib.hid (fun W h => kindIs_any (l.getD j Pm.none) (T j) (ks.getD j 0) W h)
        have HS1 := Lib.hid (HS.out j hlt)
        have HU1 := Lib.hid (fun h => HU.out j hlt h HA.out)
        clear hc hcj
        generalize ks.getD j 0 = kk at *
        generalize l.getD j Pm.none = x at *
        generalize T j = tv at *
        have HRT := Lib.hid fun (o : Obj) => hr.below ((Below.refl wr.heap.size wr).alloc (Nat.le_refl _) o)
        obtain ⟨⟨A2, c2', rfl, _, _, _⟩, _⟩ := hr
        unfold Pm.pmV at CP
        obtain ⟨k, n, t, f, m, bb⟩ := x
        simp only [] at *
        by_cases hq : k = kk
        · have HN := Lib.hid (HU1.out hq)
          have hd : decide (k = kk) = true := decide_eq_true hq
          rw [hd] at CP
          clear hq hd HS1 HU1
          go_wp2_with fail
          with_reducible refine (CP.out _ (HRT.out _)).mono ?_
          rintro e w2 ⟨rfl, hb2⟩
          go_wp2_with fail
          go_roundw
          case rel => exact ⟨j + 1, by omega, by go_num, HN, (hba _).trans (hb2.mono (hba _).size)⟩
          case measure => simp [intOf]; omega
        · have HN := Lib.hid (HS1.out hq)
          have hd : decide (k = kk) = false := decide_eq_false hq
          rw [hd] at CP
          clear hq hd HS1 HU1
          go_wp2_with fail
          with_reducible refine (CP.out _ (HRT.out _)).mono ?_
          rintro e w2 ⟨rfl, hb2⟩
          go_wp2_with fail
          go_ret
          rw [HN.out]
          exact ⟨rfl, (hba _).trans (hb2.mono (hba _).size)⟩
      · obtain rfl : j = l.length := by omega
        have HN := Lib.hid (HT.out HA.out)
        go_wp2_with fail
        go_ret
        rw [HN.out]
        exact ⟨rfl, hbw⟩
  · have HR := Lib.hid (show decide (l.map Pm.M.kind = ks) = false from decide_eq_false fun e => hlen (by rw [← e]; simp))
    have hne : ((l.length : Int) != (ks.length : Int)) = true := by rw [bne_iff_ne]; omega
    generalize decide (l.map Pm.M.kind = ks) = R at *
    go_enter Tryz.func145, Tryz.ntmps145
    go_wp2_with fail
    go_ret
    rw [HR.out]
    exact ⟨rfl, Below.refl _ _⟩
end Go.Proofs.YtiekfipjbmdkpaaGreatDoor
namespace Go.Proofs.YtiekfipjbmdkpaaGreatDoor
open Go.RowKit Go.Maps
namespace Pm
/-- The kinds of the maps of a volume's kind. -/
def kindL (k : Int) : List Int := if k = 0 then [0] else if k = 1 then [0, 1] else if k = 2 then [2] else if k = 3 then [0, 3] else []
def kindK (ks : List Int) : Int := if ks = [0] then 0 else if ks = [0, 1] then 1 else if ks = [2] then 2 else if ks = [0, 3] then 3 else -1
/-- Kind. -/
def kindR (l : List M) : Int := if all l = true ∧ l.all (isNum (l.getD 0 Pm.none).number) = true then kindK (l.map M.kind) else -1
theorem kindK_hit {x : Int} {ks : List Int} (hx : x = 0 ∨ x = 1 ∨ x = 2 ∨ x = 3) (h : kindL x = ks) : kindK ks = x := by
  rcases hx with rfl | rfl | rfl | rfl <;> (subst h; rfl)
theorem kindK_miss {ks : List Int} (h0 : kindL 0 ≠ ks) (h1 : kindL 1 ≠ ks) (h2 : kindL 2 ≠ ks) (h3 : kindL 3 ≠ ks) : kindK ks = -1 := by
  unfold kindK
  rw [if_neg (fun e => h0 (by rw [e]; rfl)), if_neg (fun e => h1 (by rw [e]; rfl)), if_neg (fun e => h2 (by rw [e]; rfl)), if_neg (fun e => h3 (by rw [e]; rfl))]
end Pm
theorem asIs_inv (v : Value) (y : DataW Value × List MemPlace) (_ : asIs v = some y) : ∃ c : Value, v = id c := ⟨v, rfl⟩
theorem int_inv (key : Value) (kl : Lit) (h : keyOf Tryz.prog 3 key = some kl) : ∃ x : Int, key = Value.int .i64 x := by
  obtain ⟨x, rfl, _⟩ := Maps.keyOf_int_inv Tryz.underlying3 h
  exact ⟨x, rfl⟩
/-- What the step of a range over four hands out. -/
theorem four4_step {v0 v1 v2 v3 : Value} {x : Int} {c : Value} {kl : Lit} {y : DataW Value × List MemPlace} (hk : keyOf Tryz.prog 3 (.int .i64 x) = some kl) (hv : asIs (id c) = some y) (hat : ∀ zd, (four4 v0 v1 v2 v3).atKey kl zd = y.1) :
    kl = .int .i64 x ∧ (x = 0 ∧ c = v0 ∨ x = 1 ∧ c = v1 ∨ x = 2 ∧ c = v2 ∨ x = 3 ∧ c = v3) := by
  obtain ⟨x', ex, rfl, _⟩ := Maps.keyOf_int_inv Tryz.underlying3 hk
  obtain rfl : x = x' := by simpa using ex
  refine ⟨rfl, ?_⟩
  unfold asIs at hv
  simp only [id, Option.some.injEq] at hv
  subst hv
  have h1 := hat (.held (.bool true))
  have h2 := hat (.held (.bool false))
  rw [four4_at] at h1 h2
  simp only [DataW.held.injEq] at h1 h2
  by_cases g0 : x = 0
  · rw [if_pos g0] at h1; exact Or.inl ⟨g0, h1.symm⟩
  · rw [if_neg g0] at h1 h2
    by_cases g1 : x = 1
    · rw [if_pos g1] at h1; exact Or.inr (Or.inl ⟨g1, h1.symm⟩)
    · rw [if_neg g1] at h1 h2
      by_cases g2 : x = 2
      · rw [if_pos g2] at h1; exact Or.inr (Or.inr (Or.inl ⟨g2, h1.symm⟩))
      · rw [if_neg g2] at h1 h2
        by_cases g3 : x = 3
        · rw [if_pos g3] at h1; exact Or.inr (Or.inr (Or.inr ⟨g3, h1.symm⟩))
        · rw [if_neg g3] at h1 h2
          rw [← h1] at h2
          simp at h2
end Go.Proofs.YtiekfipjbmdkpaaGreatDoor
namespace Go.Proofs.YtiekfipjbmdkpaaGreatDoor
open Go.RowKit Go.Maps

set_option maxHeartbeats 3200000 in
set_option maxRecDepth 100000 in
/-- partitionmap.Kind. -/
theorem kind_any (v : Value) (l : List Pm.M) (T : Nat → Value) (w : World) (hm : Pm.MapsAt w v l T) (hf : Pm.Few l) :
    Calls Tryz.prog 62 #[v] w fun e w' => e = .returned (.int .i64 (Pm.kindR l)) ∧ Below w.heap.size w w' := by
  have CA := Lib.hid (fun W h => all_any v l T W h hf)
  have CN := Lib.hid (fun W h hg => containsNum_any v l T w.heap.size (l.getD 0 Pm.none).number W h hf hg)
  have CE := Lib.hid (fun kv ks W h hk => equalFn_any v l T kv ks W h hf hk)
  have HM := Lib.hid hm
  obtain ⟨A, c, rfl, hlc, hcm, hcells⟩ := hm.row
  have hcap : 0 < l.length → ∀ o : Obj, True := fun _ _ => trivial
  clear hcap
  have hba := (Below.refl w.heap.size w).alloc (Nat.le_refl _) (.cells #[.slice A l.length c] 67)
  have hx0 : (w.alloc (.cells #[.slice A l.length c] 67)).cell? ⟨w.heap.size, 0, none⟩ = some (.slice A l.length c) := by
    rw [World.cell?_alloc_at _ _ _ _ (by simp)]
    simp
  have HCap : Hid (0 < l.length → Pm.Cap (w.alloc (.cells #[.slice A l.length c] 67)) w.heap.size (l.getD 0 Pm.none).number) := Lib.hid fun h0 => by
    obtain ⟨b, o, rfl, hbl, hc⟩ := hcells h0
    have := hc 0 h0 1 _ rfl
    rw [show o + 0 * 6 + 1 = o + 1 by omega] at this
    exact ⟨b, o, l.length, c, h0, hx0, (hba.cell (p := ⟨b, o + 1, none⟩) hbl).trans this⟩
  have HX0 := Lib.hid hx0
  have HBA := Lib.hid hba
  clear hcells hm hx0 hba
  cases ha : Pm.all l with
  | false =>
    have HR := Lib.hid (show Pm.kindR l = -1 by unfold Pm.kindR; rw [ha, if_neg (by simp)])
    rw [ha] at CA
    clear ha
    go_enter Tryz.func62, Tryz.ntmps62
    go_wp2_with fail
    with_reducible refine (CA.out _ (HM.out.below HBA.out)).mono ?_
    rintro e w2 ⟨rfl, hb2⟩
    go_wp2_with fail
    go_ret
    rw [HR.out]
    exact ⟨rfl, HBA.out.trans (hb2.mono HBA.out.size)⟩
  | true =>
    rw [ha] at CA
    cases hn : l.all (Pm.isNum (l.getD 0 Pm.none).number) with
    | false =>
      have HR := Lib.hid (show Pm.kindR l = -1 by unfold Pm.kindR; rw [hn, if_neg (by simp)])
      rw [hn] at CN
      clear ha hn
      go_enter Tryz.func62, Tryz.ntmps62
      go_wp2_with fail
      with_reducible refine (CA.out _ (HM.out.below HBA.out)).mono ?_
      rintro e w2 ⟨rfl, hb2⟩
      have x2 := (hb2.cell (p := ⟨w.heap.size, 0, none⟩) (by simp)).trans HX0.out
      have HB2 := Lib.hid hb2
      clear hb2
      go_wp2_with fail
      with_reducible refine (CN.out _ ((HM.out.below HBA.out).below HB2.out) (fun h => (HCap.out h).below HB2.out)).mono ?_
      rintro e w3 ⟨rfl, hb3⟩
      go_wp2_with fail
      go_ret
      rw [HR.out]
      exact ⟨rfl, HBA.out.trans ((HB2.out.trans (hb3.mono HB2.out.size)).mono HBA.out.size)⟩
    | true =>
      have HR := Lib.hid (show Pm.kindR l = Pm.kindK (l.map Pm.M.kind) by unfold Pm.kindR; rw [ha, hn, if_pos ⟨rfl, rfl⟩])
      rw [hn] at CN
      clear ha hn
      go_enter Tryz.func62, Tryz.ntmps62
      go_wp2_with fail
      with_reducible refine (CA.out _ (HM.out.below HBA.out)).mono ?_
      rintro e w2 ⟨rfl, hb2⟩
      have x2 := (hb2.cell (p := ⟨w.heap.size, 0, none⟩) (by simp)).trans HX0.out
      have HB2 := Lib.hid hb2
      clear hb2
      go_wp2_with fail
      with_reducible refine (CN.out _ ((HM.out.below HBA.out).below HB2.out) (fun h => (HCap.out h).below HB2.out)).mono ?_
      rintro e w3 ⟨rfl, hb3⟩
      have hlt0 : w.heap.size < (w.alloc (.cells #[.slice A l.length c] 67)).heap.size := by simp
      have hb13 := HB2.out.trans (hb3.mono HB2.out.size)
      have x3 := (hb13.cell (p := ⟨w.heap.size, 0, none⟩) hlt0).trans HX0.out
      have hbw3 := HBA.out.trans (hb13.mono HBA.out.size)
      have HM3 := Lib.hid (HM.out.below hbw3)
      clear x2 hb3 HB2 hb13 CA CN HCap HBA HM HX0
      go_wp2_with fail
      refine (kinds_any _).mono ?_
      rintro e w4 ⟨bm, b0, b1, b2, b3, rfl, hbm, g0, g1, g2, g3, hV, k0, k1, k2, k3, hb4⟩
      have hlt3 : w.heap.size < w3.heap.size := World.block_lt_of_cell? _ _ x3
      have x4 := (hb4.cell (p := ⟨w.heap.size, 0, none⟩) hlt3).trans x3
      have hbw4 := hbw3.trans (hb4.mono hbw3.size)
      have HM4 := Lib.hid (HM3.out.below hb4)
      have HK0 := Lib.hid (And.intro k0 (And.intro k1 (And.intro k2 k3)))
      clear x3 hbw3 HM3 k0 k1 k2 k3 g0 g1 g2 g3 hb4
      go_wp2_with (at_range; refine wpList_range_own _ rfl _ 263 rfl 3 68 keyedInt (by kernel_rfl) asIs bm 4 _ rfl hV ?_; intro w0 hrg0 hg0 hs0)
      go_frame
      have hrow : ∀ (x : Int) (c : Value), (x = 0 ∧ c = slV b0 1 ∨ x = 1 ∧ c = slV b1 2 ∨ x = 2 ∧ c = slV b2 1 ∨ x = 3 ∧ c = slV b3 2) → Kit.Row w4 c (Kit.izs (Pm.kindL x)) := by
        obtain ⟨k0, k1, k2, k3⟩ := HK0.out
        rintro x c (⟨rfl, rfl⟩ | ⟨rfl, rfl⟩ | ⟨rfl, rfl⟩ | ⟨rfl, rfl⟩)
        · exact k0.row (by unfold maxLen; simp)
        · exact k1.row (by unfold maxLen; simp)
        · exact k2.row (by unfold maxLen; simp)
        · exact k3.row (by unfold maxLen; simp)
      have HROW := Lib.hid hrow
      have hb0 : Below w4.heap.size w4 w0 := (Below.refl _ w4).grown hg0 (Nat.le_refl _) (fun j hj => by cases hj)
      have hlt4 : w.heap.size < w4.heap.size := World.block_lt_of_cell? _ _ x4
      have HX4 := Lib.hid x4
      clear x4 hV hrow HK0 hg0 hs0 hlt3
      have H0 := Lib.hid hb0
      clear hb0
      go_loopw [3, 4] (fun _ _ wr => ∃ left cnt, wr.ranges Tryz.prog 3 asIs bm w4.heap.size 4 (four4 (slV b0 1) (slV b1 2) (slV b2 1) (slV b3 2)) left cnt ∧ Hid (∀ k : Int, (k = 0 ∨ k = 1 ∨ k = 2 ∨ k = 3) → left (.int .i64 k) = false → Pm.kindL k ≠ l.map Pm.M.kind) ∧ Below w4.heap.size w4 wr) (fun _ _ wr => wr.rangeLeft bm w4.heap.size)
      case atStart =>
        refine ⟨_, _, hrg0, Lib.hid (fun k hk h => ?_), H0.out⟩
        exfalso
        rcases hk with rfl | rfl | rfl | rfl <;> exact absurd (show true = false from h) (by decide)
      case round =>
        obtain ⟨left, cnt, hrg, HN, hbr⟩ := hrel
        go_wp2_with (at_next; refine wpList_next_ranges _ rfl _ rfl 3 keyedInt asIs (Value.int .i64) id int_inv asIs_inv bm w4.heap.size 4 _ _ _ rfl hrg ?_ ?_)
        · intro hc0 hl0
          go_wp2_with fail
          go_ret
          rw [HR.out, Pm.kindK_miss (HN.out 0 (by simp) (hl0 _)) (HN.out 1 (by simp) (hl0 _)) (HN.out 2 (by simp) (hl0 _)) (HN.out 3 (by simp) (hl0 _))]
          exact ⟨rfl, hbw4.trans (hbr.mono hbw4.size)⟩
        · intro x c kl yd yp w1 cnt1 hkey hlk hv hat hrg1 hlt hg1 hs1 hen
          obtain ⟨rfl, hx⟩ := four4_step (y := (yd, yp)) hkey hv hat
          have hb1 : Below w4.heap.size w4 w1 := hbr.grown hg1 hbr.size (fun j hj => by cases hj; exact Nat.le_refl _)
          have hR1 := (HROW.out x c hx).below hb1
          have x1 := (hb1.cell (p := ⟨w.heap.size, 0, none⟩) hlt4).trans HX4.out
          have hm1 := HM4.out.below hb1
          clear hkey hlk hv hat hg1 hs1
          have HR1 := Lib.hid hR1
          have HM1 := Lib.hid hm1
          have HX := Lib.hid hx
          have HRG := Lib.hid hrg1
          have HLT := Lib.hid hlt
          obtain ⟨A1, c1, rfl, _⟩ := hR1
          clear hm1 hx hrg1 hlt
          have hX : x = 0 ∨ x = 1 ∨ x = 2 ∨ x = 3 := by rcases HX.out with h | h | h | h <;> simp [h.1]
          have HXX := Lib.hid hX
          clear HX hX
          rw [Kit.izs_length] at *
          go_wp2_with fail
          with_reducible refine (CE.out _ (Pm.kindL x) _ HM1.out HR1.out).mono ?_
          rintro e w5 ⟨rfl, hb5⟩
          by_cases hq : l.map Pm.M.kind = Pm.kindL x
          · rw [decide_eq_true hq]
            have HQ := Lib.hid (Pm.kindK_hit HXX.out hq.symm)
            clear hq
            go_wp2_with fail
            go_ret
            rw [HR.out, HQ.out]
            exact ⟨rfl, hbw4.trans ((hb1.trans (hb5.mono hb1.size)).mono hbw4.size)⟩
          · rw [decide_eq_false hq]
            have HQ := Lib.hid hq
            clear hq
            go_wp2_with fail
            have hrg2 := HRG.out.kept (Kit.grown_of_below hb5) (by simp) (by simp)
            go_roundw
            case rel =>
              refine ⟨_, cnt1, hrg2, Lib.hid (fun k hk h => ?_), hb1.trans (hb5.mono hb1.size)⟩
              by_cases hkx : k = x
              · subst hkx; exact fun e => HQ.out e.symm
              · refine HN.out k hk ?_
                simp [Lit.sameKey, hkx] at h
                exact h
            case measure => rw [hrg2.left_eq, hrg.left_eq]; exact HLT.out
end Go.Proofs.YtiekfipjbmdkpaaGreatDoor
namespace Go.Proofs.YtiekfipjbmdkpaaGreatDoor
open Go.RowKit
namespace Pm
end Pm

theorem up_any (z : Int) (w : World) : Calls Tryz.prog 347 #[.int .i64 z] w fun e w' => e = .returned (.func (.func 410) #[] #[]) ∧ w = w' := by
  go_enter Tryz.func347, Tryz.ntmps347
  go_wp2
  go_ret
  exact ⟨rfl, rfl⟩
theorem up1_any (z : Int) (w : World) : Calls Tryz.prog 410 #[.int .i64 z] w fun e w' => e = .returned (.int .i64 z) ∧ w = w' := by
  go_enter Tryz.func410, Tryz.ntmps410
  go_wp2
  go_ret
  exact ⟨rfl, rfl⟩
end Go.Proofs.YtiekfipjbmdkpaaGreatDoor
namespace Go.Proofs.YtiekfipjbmdkpaaGreatDoor
open Go.RowKit
namespace Pm
/-- ReadLittle. -/
def readR (s : List UInt8) (a : Int) (k : Nat) : Int × Int :=
  if a < 0 ∨ (s.length : Int) - k < a then (0, 2) else if 9223372036854775807 < at_ s a.toNat k then (0, 7) else ((at_ s a.toNat k : Nat), 0)
theorem at_succ (s : List UInt8) (a j : Nat) (h : a + j < s.length) : at_ s a (j + 1) = at_ s a j + 256 ^ j * Cs.byt s (a + j) := by
  unfold at_
  have hd : j < (s.drop a).length := by rw [List.length_drop]; omega
  rw [List.take_succ_eq_append_getElem hd, num_append, List.length_take, Nat.min_eq_left (by omega)]
  congr 2
  unfold Cs.byt
  simp only [num, List.getElem_drop, List.getD, List.getElem?_eq_getElem h, Option.getD_some]
  omega
theorem pow8 (j : Nat) : (2 : Nat) ^ (8 * j) = 256 ^ j := by rw [Nat.pow_mul]
theorem or_byte (N b j : Nat) (hj : j < 8) (hN : N < 256 ^ j) (hb : b < 256) : bits BinOp.or IntKind.u64 (N : Int) (IntKind.u64.wrap (IntKind.u64.wrap (b : Int) * 2 ^ (8 * j))) = ((N + 256 ^ j * b : Nat) : Int) := by
  rw [wraps_u64 (b : Int) (by omega) (by omega)]
  have hp : ((2 : Int) ^ (8 * j)) = ((256 ^ j : Nat) : Int) := by rw [← pow8, Int.natCast_pow]; rfl
  have hpj : 256 ^ j ≤ 256 ^ 7 := Nat.pow_le_pow_right (by decide) (by omega)
  have hbp : b * 256 ^ j ≤ 255 * 256 ^ 7 := Nat.mul_le_mul (by omega) hpj
  have hx : ((b : Int) * 2 ^ (8 * j)) = ((b * 256 ^ j : Nat) : Int) := by rw [hp, Int.natCast_mul]
  have hlt : b * 256 ^ j < 2 ^ 64 := Nat.lt_of_le_of_lt hbp (by decide)
  rw [hx, wraps_u64 _ (by omega) (by exact_mod_cast hlt)]
  have hN' : N < 2 ^ 64 := Nat.lt_of_lt_of_le hN (Nat.le_trans hpj (by decide))
  rw [bits_join_low .u64 64 (by decide) wraps_u64 (8 * j) (N : Int) ((b * 256 ^ j : Nat) : Int) (by omega) (by rw [hp]; exact_mod_cast hN) (by exact_mod_cast hN') (by omega) (by
    rw [hp]; exact_mod_cast Nat.mul_mod_left b (256 ^ j)) (by exact_mod_cast hlt)]
  rw [Nat.mul_comm b, ← Int.natCast_add]
end Pm

set_option maxHeartbeats 1600000 in
set_option maxRecDepth 100000 in
/-- endian.inside. -/
theorem inside_any (s : ByteArray) (a : Int) (k : Nat) (hk : Pm.Sz k) (hs : s.size ≤ 9223372036854775807) (w : World) : Calls Tryz.prog 409 #[.string s, .int .i64 a, .int .i64 (k : Int)] w fun e w' => e = .returned (.bool (decide (0 ≤ a) && decide (a ≤ (s.size : Int) - k))) ∧ w = w' := by
  obtain ⟨h1, h8⟩ := hk.le
  by_cases h0 : 0 ≤ a
  · go_enter Tryz.func409, Tryz.ntmps409
    go_wp2
    go_ret
    refine ⟨congrArg (fun b => Ending.returned (.bool b)) ?_, rfl⟩
    simp [h0]
  · have h0' : decide (0 ≤ a) = false := by simpa using h0
    rw [h0']
    go_enter Tryz.func409, Tryz.ntmps409
    go_wp2
    go_ret
    exact ⟨rfl, rfl⟩

set_option maxHeartbeats 3200000 in
set_option maxRecDepth 100000 in
/-- endian.read of a little-endian number. -/
theorem read_any (s : ByteArray) (a : Int) (k : Nat) (hk : Pm.Sz k) (hs : s.size ≤ 9223372036854775807) (w : World) : Calls Tryz.prog 346 #[.string s, .int .i64 a, .int .i64 (k : Int), .func (.func 410) #[] #[]] w fun e w' => e = .returned (.tuple #[.int .i64 (Pm.readR s.data.toList a k).1, .int .i64 (Pm.readR s.data.toList a k).2]) ∧ w = w' := by
  obtain ⟨h1, h8⟩ := hk.le
  have CI := Lib.hid (fun W => inside_any s a k hk hs W)
  have hdl := Kit.len_size s
  by_cases hin : 0 ≤ a ∧ a ≤ (s.size : Int) - k
  case neg =>
    have HR := Lib.hid (show Pm.readR s.data.toList a k = (0, 2) from if_pos (by omega))
    rw [show (decide (0 ≤ a) && decide (a ≤ (s.size : Int) - k)) = false by rw [Bool.and_eq_false_iff]; simp; omega] at CI
    clear hin hdl
    go_enter Tryz.func346, Tryz.ntmps346
    go_wp2_with fail
    with_reducible refine (CI.out _).mono ?_
    rintro e w2 ⟨rfl, rfl⟩
    go_wp2_with fail
    go_ret2
    rw [HR.out]
    exact ⟨rfl, rfl⟩
  case pos =>
  obtain ⟨ha0, ha1⟩ := hin
  rw [show (decide (0 ≤ a) && decide (a ≤ (s.size : Int) - k)) = true by rw [Bool.and_eq_true]; simp; omega] at CI
  obtain ⟨a, rfl⟩ := Int.eq_ofNat_of_zero_le ha0
  have hR : Pm.readR s.data.toList (a : Int) k = if 9223372036854775807 < Pm.at_ s.data.toList a k then ((0, 7) : Int × Int) else (((Pm.at_ s.data.toList a k : Nat) : Int), 0) := by
    unfold Pm.readR
    rw [if_neg (by omega), Int.toNat_natCast]
  have HR := Lib.hid hR
  have hak : a + k ≤ s.size := by omega
  clear hR hdl ha0 ha1
  go_enter Tryz.func346, Tryz.ntmps346
  go_wp2_with fail
  with_reducible refine (CI.out _).mono ?_
  rintro e w2 ⟨rfl, rfl⟩
  go_wp2_with fail
  go_loop [10, 11, 26] (fun nv _ iv => ∃ j : Nat, j ≤ k ∧ iv = .int .i64 j ∧ nv = .int .u64 (Pm.at_ s.data.toList a j : Nat)) (fun _ _ iv => k - (intOf iv).toNat)
  case atStart => exact ⟨0, by omega, rfl, by simp [Pm.at_, Pm.num]⟩
  case round =>
    obtain ⟨j, hj, rfl, rfl⟩ := hrel
    by_cases hlt : j < k
    · have hb := Kit.byt_get s (a + j) (by omega)
      have hix : a + j < s.size := by omega
      go_wp2_with fail
      with_reducible refine (up1_any _ _).mono ?_
      rintro e w2 ⟨rfl, rfl⟩
      go_wp2_with fail
      have hsl : a + j < s.data.toList.length := by rw [Kit.len_size]; exact hix
      rw [Pm.or_byte _ _ j (by omega) (Pm.at_lt _ _ _) (Cs.byt_lt _ _), ← Pm.at_succ _ _ _ hsl]
      go_round
      case rel => exact ⟨j + 1, by omega, by go_num, rfl⟩
      case measure => simp [intOf]; omega
    · obtain rfl : j = k := by omega
      by_cases hbig : 9223372036854775807 < Pm.at_ s.data.toList a j
      · have HR' := Lib.hid (HR.out.trans (if_pos hbig))
        generalize Pm.at_ s.data.toList a j = x at *
        have hbig' : (9223372036854775807 : Int) < (x : Int) := by omega
        go_wp2_with fail
        go_ret2
        rw [HR'.out]
        exact ⟨rfl, rfl⟩
      · have HR' := Lib.hid (HR.out.trans (if_neg hbig))
        generalize Pm.at_ s.data.toList a j = x at *
        have hbig' : (x : Int) ≤ 9223372036854775807 := by omega
        have hbig2 : ¬ (9223372036854775807 : Int) < (x : Int) := by omega
        go_wp2_with fail
        go_ret2
        rw [HR'.out]
        exact ⟨rfl, rfl⟩

set_option maxHeartbeats 1600000 in
set_option maxRecDepth 100000 in
/-- endian.ReadLittle. -/
theorem readLittle_any (s : ByteArray) (a : Int) (k : Nat) (hk : Pm.Sz k) (hs : s.size ≤ 9223372036854775807) (w : World) : Calls Tryz.prog 253 #[.string s, .int .i64 a, .int .i64 (k : Int)] w fun e w' => e = .returned (.tuple #[.int .i64 (Pm.readR s.data.toList a k).1, .int .i64 (Pm.readR s.data.toList a k).2]) ∧ w = w' := by
  have CR := Lib.hid (fun W => read_any s a k hk hs W)
  generalize (Pm.readR s.data.toList a k).1 = r1 at *
  generalize (Pm.readR s.data.toList a k).2 = r2 at *
  clear hk hs
  go_enter Tryz.func253, Tryz.ntmps253
  go_wp2_with fail
  with_reducible refine (up_any _ _).mono ?_
  rintro e w2 ⟨rfl, rfl⟩
  go_wp2_with fail
  with_reducible refine (CR.out _).mono ?_
  rintro e w2 ⟨rfl, rfl⟩
  go_wp2_with fail
  go_ret2
  exact ⟨rfl, rfl⟩
end Go.Proofs.YtiekfipjbmdkpaaGreatDoor
namespace Go.Proofs.YtiekfipjbmdkpaaGreatDoor
open Go.RowKit
namespace Pm
/-- The cells of maps, each with its tables' value. -/
def cellsL (L : List (M × Value)) : List Value := L.flatMap fun p => pmC p.1 p.2
/-- A table: a row of integers that some call owns. -/
abbrev Tab (w : World) (v : Value) (l : List Int) : Prop := w.ownsRow 0 3 1 v l.length (Kit.izs l)
/-- A row of maps of the call's own. -/
structure OwnM (w : World) (base : Nat) (v : Value) (L : List (M × Value)) : Prop where
  own : w.ownsRow base 146 6 v L.length (cellsL L)
  tabs : ∀ p ∈ L, Tab w p.2 p.1.tables
  ints : ∀ p ∈ L, I64 p.1
theorem OwnM.nil (w : World) (base : Nat) : OwnM w base (.slice Option.none 0 0) [] := ⟨⟨rfl, Or.inl ⟨rfl, rfl⟩⟩, fun p hp => by simp at hp, fun p hp => by simp at hp⟩
theorem OwnM.below {w w' : World} {base : Nat} {v : Value} {L : List (M × Value)} (h : OwnM w base v L) (hb : Below w.heap.size w w') : OwnM w' base v L :=
  ⟨Kit.own_below h.own hb, fun p hp => Kit.own_below (h.tabs p hp) hb, h.ints⟩
theorem OwnM.base {w : World} {base base' : Nat} {v : Value} {L : List (M × Value)} (h : OwnM w base v L) (hb : base' ≤ base) : OwnM w base' v L := ⟨Kit.own_base h.own hb, h.tabs, h.ints⟩
end Pm

end Go.Proofs.YtiekfipjbmdkpaaGreatDoor
namespace Go.Proofs.YtiekfipjbmdkpaaGreatDoor
open Go.RowKit Go.Maps

theorem readR_at (d : List UInt8) (a k : Nat) (hk : k ≤ 4) (h : a + k ≤ d.length) : Pm.readR d (a : Int) k = ((Pm.at_ d a k : Int), 0) := by
  have h1 := Pm.at_lt d a k
  have h2 : 256 ^ k ≤ 256 ^ 4 := Nat.pow_le_pow_right (by decide) hk
  unfold Pm.readR
  rw [if_neg (by omega), Int.toNat_natCast, if_neg (by omega)]

set_option maxHeartbeats 1600000 in
set_option maxRecDepth 100000 in
/-- partitionmap.decode$1. -/
theorem number_any (d : ByteArray) (a k : Nat) (A K : Int) (hA : A = (a : Int)) (hK : K = (k : Int)) (g : Nat) (w : World) (hk : Pm.Sz k) (h4 : k ≤ 4) (ha : a + k ≤ d.size) (hs : d.size ≤ 9223372036854775807) (hg : w.cell? ⟨g, 0, none⟩ = some (.string d)) :
    Calls Tryz.prog 262 #[.int .i64 A, .int .i64 K, .pointer (some ⟨g, 0, none⟩)] w fun e w' => e = .returned (.int .i64 (Pm.at_ d.data.toList a k : Int)) ∧ w = w' := by
  subst hA hK
  have CR := Lib.hid (fun W => readLittle_any d (a : Int) k hk hs W)
  rw [readR_at d.data.toList a k h4 (by rw [Kit.len_size]; exact ha)] at CR
  generalize Pm.at_ d.data.toList a k = q at *
  clear hk h4 ha hs
  go_enter Tryz.func262, Tryz.ntmps262
  go_wp2_with fail
  refine (CR.out _).mono ?_
  rintro e w2 ⟨rfl, rfl⟩
  go_wp2_with fail
  go_ret
  exact ⟨rfl, rfl⟩

/-- What decode's results are read as. -/
theorem dec_results (tmps : Array Value) (W : World) (g : Nat) (cs : List Value) (x y : Value) (h6 : cs.length = 6) (h2 : tmps.getD 2 undef = .pointer (some ⟨g, 0, none⟩)) (h3 : tmps.getD 3 undef = x) (h4 : tmps.getD 4 undef = y)
    (hc : ∀ j v, cs[j]? = some v → W.cell? ⟨g, j, none⟩ = some v) : (results Tryz.f140 tmps).run Tryz.prog W = .ok (.tuple #[.agg cs.toArray, x, y]) W := by
  have hl : (loadCells ⟨g, 0, none⟩ cs.length).run Tryz.prog W = .ok cs.toArray W := run_loadCells_list (P := Tryz.prog) W ⟨g, 0, none⟩ cs (fun j v hv => by rw [Addr.add_lit, Nat.zero_add]; exact hc j v hv)
  rw [h6] at hl
  have ha : ∀ w : World, (isAgg 146).run Tryz.prog w = .ok true w := fun _ => by kernel_rfl
  have hs : ∀ w : World, (sizeOf 146).run Tryz.prog w = .ok 6 w := fun _ => by kernel_rfl
  have hv : (loadVar 146 ⟨g, 0, none⟩).run Tryz.prog W = .ok (.agg cs.toArray) W := by
    simp [loadVar, ha, hs, hl]
  rw [Array.getD_eq_getD_getElem?] at h2 h3 h4
  simp [results, h2, h3, h4, hv, asAddr]
/-- Six cells written, one after the other. -/
theorem set6 (W : World) (g : Nat) (u0 u1 u2 u3 u4 u5 : Value) (h : ∀ j, j < 6 → ∃ x, W.cell? ⟨g, j, none⟩ = some x) : ∀ j v, ([u0, u1, u2, u3, u4, u5] : List Value)[j]? = some v →
    ((((((W.setCell ⟨g, 0, none⟩ u0).setCell ⟨g, 1, none⟩ u1).setCell ⟨g, 2, none⟩ u2).setCell ⟨g, 3, none⟩ u3).setCell ⟨g, 4, none⟩ u4).setCell ⟨g, 5, none⟩ u5).cell? ⟨g, j, none⟩ = some v := by
  obtain ⟨x0, h0⟩ := h 0 (by omega)
  obtain ⟨x1, h1⟩ := h 1 (by omega)
  obtain ⟨x2, h2⟩ := h 2 (by omega)
  obtain ⟨x3, h3⟩ := h 3 (by omega)
  obtain ⟨x4, h4⟩ := h 4 (by omega)
  obtain ⟨x5, h5⟩ := h 5 (by omega)
  intro j v hv
  rcases j with _ | _ | _ | _ | _ | _ | j
  all_goals (simp at hv; try subst hv)
  all_goals simp [World.cell?_setCell_other, World.cell?_setCell_same, h0, h1, h2, h3, h4, h5]
/-- The world at decode's door: the string's box, the results' variable. -/
abbrev decW (w : World) (d : ByteArray) : World := (w.alloc (.cells #[.string d] 9)).alloc (.cells #[.int .i64 0, .int .i64 0, .slice none 0 0, .int .i64 0, .int .i64 0, .int .i64 0] 146)
theorem dec_fin (w : World) (d : ByteArray) (Wx : World) (hb : Below (w.heap.size + 1 + 1) (decW w d) Wx) (u0 u1 u2 u3 u4 u5 : Value) :
    (∀ j v, ([u0, u1, u2, u3, u4, u5] : List Value)[j]? = some v → ((((((Wx.setCell ⟨w.heap.size + 1, 0, none⟩ u0).setCell ⟨w.heap.size + 1, 1, none⟩ u1).setCell ⟨w.heap.size + 1, 2, none⟩ u2).setCell ⟨w.heap.size + 1, 3, none⟩ u3).setCell ⟨w.heap.size + 1, 4, none⟩ u4).setCell ⟨w.heap.size + 1, 5, none⟩ u5).cell? ⟨w.heap.size + 1, j, none⟩ = some v) ∧
    Below w.heap.size w ((((((Wx.setCell ⟨w.heap.size + 1, 0, none⟩ u0).setCell ⟨w.heap.size + 1, 1, none⟩ u1).setCell ⟨w.heap.size + 1, 2, none⟩ u2).setCell ⟨w.heap.size + 1, 3, none⟩ u3).setCell ⟨w.heap.size + 1, 4, none⟩ u4).setCell ⟨w.heap.size + 1, 5, none⟩ u5) := by
  constructor
  · refine set6 _ _ _ _ _ _ _ _ fun j hj => ?_
    rw [hb.cell (p := ⟨w.heap.size + 1, j, none⟩) (by simp)]
    have hs : (w.alloc (.cells #[.string d] 9)).heap.size = w.heap.size + 1 := by simp
    refine ⟨(#[.int .i64 0, .int .i64 0, .slice none 0 0, .int .i64 0, .int .i64 0, .int .i64 0] : Array Value).getD j undef, ?_⟩
    unfold decW
    rw [World.cell?_alloc_at _ _ _ _ (by simp)]
    rcases j with _ | _ | _ | _ | _ | _ | j
    all_goals first | rfl | omega
  · have h0 : Below w.heap.size w (decW w d) := ((Below.refl _ w).alloc (Nat.le_refl _) _).alloc (by simp) _
    have h1 := h0.trans (hb.mono (by omega))
    exact ((((((h1.setCell (p := ⟨w.heap.size + 1, 0, none⟩) (by simp) u0).setCell (p := ⟨w.heap.size + 1, 1, none⟩) (by simp) u1).setCell (p := ⟨w.heap.size + 1, 2, none⟩) (by simp) u2).setCell (p := ⟨w.heap.size + 1, 3, none⟩) (by simp) u3).setCell (p := ⟨w.heap.size + 1, 4, none⟩) (by simp) u4).setCell (p := ⟨w.heap.size + 1, 5, none⟩) (by simp) u5)

/-- A map of two, by bytes. -/
def twoD : DataW Value := ((DataW.map []).put (.int .u8 1) (.held (.int .i64 6))).put (.int .u8 2) (.held (.int .i64 64))
theorem keyedU8 : Keyed Tryz.prog 5 := int_keyed Tryz.underlying5
abbrev BMap (w : World) (b n : Nat) (D : DataW Value) : Prop := w.ownsMap Tryz.prog 5 asIs b n D
theorem two_look (k : Int) (w : World) (b n : Nat) (h : BMap w b n twoD) (hw : (Lit.int .u8 k).wf = true) :
    (Instr.lookup 390 (.map (some b)) (.int .u8 k) false).run Tryz.prog w = .ok (.int .i64 (if k = 1 then 6 else if k = 2 then 64 else 0)) w := by
  have hz : (zeroValue 3).run Tryz.prog w = .ok (.int .i64 0) w := by kernel_rfl
  obtain ⟨v, ps, hrun, hv⟩ := World.ownsMap.lookup h keyedU8 (by kernel_rfl) hz (show asIs (.int .i64 0) = some (.held (.int .i64 0), []) from rfl) (keyOf_int_mk Tryz.underlying5 hw)
  rw [hrun]
  have hd : twoD.atKey (.int .u8 k) (.held (.int .i64 0)) = .held (.int .i64 (if k = 1 then 6 else if k = 2 then 64 else 0)) := by
    have e : twoD = .map [(.int .u8 1, .held (.int .i64 6)), (.int .u8 2, .held (.int .i64 64))] := rfl
    rw [e]
    by_cases h1 : k = 1
    · subst h1; rfl
    · by_cases h2 : k = 2
      · subst h2; rfl
      · rw [if_neg h1, if_neg h2]
        simp [DataW.atKey, List.find?, Lit.sameKey, Ne.symm h1, Ne.symm h2]
  rw [hd] at hv
  unfold asIs at hv
  simp only [Option.some.injEq, Prod.mk.injEq, DataW.held.injEq] at hv
  rw [hv.1]

end Go.Proofs.YtiekfipjbmdkpaaGreatDoor
namespace Go.Proofs.YtiekfipjbmdkpaaGreatDoor
open Go.RowKit Go.Maps

/-- What stands at decode's lookup: the string's box, the results' variable, the empty map. -/
structure DecAt (w : World) (d : ByteArray) (W : World) : Prop where
  below : Below (w.heap.size + 1 + 1) (decW w d) W
  str : W.cell? ⟨w.heap.size, 0, none⟩ = some (.string d)
  res : ∀ (j : Nat) v, (#[.int .i64 0, .int .i64 0, .slice none 0 0, .int .i64 0, .int .i64 0, .int .i64 0] : Array Value)[j]? = some v → W.cell? ⟨w.heap.size + 1, j, none⟩ = some v
  free : ∀ (j : Nat), W.frozen? ⟨w.heap.size + 1, j, none⟩ = false
  non : ∀ (j : Nat) v, (#[.int .i64 0, .int .i64 0, .slice none 0 0, .int .i64 0, .int .i64 0, .int .i64 0] : Array Value)[j]? = some v → W.cell? ⟨w.heap.size + 1 + 1, j, none⟩ = some v
  size : w.heap.size + 1 + 1 + 1 ≤ W.heap.size
theorem DecAt.later {w : World} {d : ByteArray} {W W' : World} (h : DecAt w d W) (hb : Below W.heap.size W W') : DecAt w d W' := by
  have hs := h.size
  exact ⟨h.below.trans (hb.mono (by omega)), (hb.cell (p := ⟨w.heap.size, 0, none⟩) (by simp; omega)).trans h.str, fun j v hv => (hb.cell (p := ⟨w.heap.size + 1, j, none⟩) (by simp; omega)).trans (h.res j v hv),
    fun j => (hb.frozen (p := ⟨w.heap.size + 1, j, none⟩) (by simp; omega)).trans (h.free j), fun j v hv => (hb.cell (p := ⟨w.heap.size + 1 + 1, j, none⟩) (by simp; omega)).trans (h.non j v hv), Nat.le_trans hs hb.size⟩
theorem DecAt.start (w : World) (d : ByteArray) (nq : Nat) {W : World} (hb : Below (w.heap.size + 1 + 1 + 1) (((decW w d).alloc (.cells #[.int .i64 0, .int .i64 0, .slice none 0 0, .int .i64 0, .int .i64 0, .int .i64 0] 146)).drewN nq) W) : DecAt w d W := by
  have h1 : (w.alloc (.cells #[.string d] 9)).heap.size = w.heap.size + 1 := by simp
  have h2 : (decW w d).heap.size = w.heap.size + 1 + 1 := by simp
  have hd1 : Below (w.heap.size + 1) (w.alloc (.cells #[.string d] 9)) W := (((Below.refl _ _).alloc (by simp) _).trans (Kit.Below.drewN ((Below.refl (w.heap.size + 1) (decW w d)).alloc (by simp) (.cells #[.int .i64 0, .int .i64 0, .slice none 0 0, .int .i64 0, .int .i64 0, .int .i64 0] 146)) nq)).trans (hb.mono (by omega))
  have hd2 : Below (w.heap.size + 1 + 1) (decW w d) W := (Kit.Below.drewN ((Below.refl (w.heap.size + 1 + 1) (decW w d)).alloc (by simp) (.cells #[.int .i64 0, .int .i64 0, .slice none 0 0, .int .i64 0, .int .i64 0, .int .i64 0] 146)) nq).trans (hb.mono (by omega))
  refine ⟨hd2, ?_, ?_, ?_, ?_, ?_⟩
  · rw [hd1.cell (p := ⟨w.heap.size, 0, none⟩) (by simp), World.cell?_alloc_at _ _ _ _ (by simp)]
    rfl
  · intro j v hv
    rw [hd2.cell (p := ⟨w.heap.size + 1, j, none⟩) (by simp), World.cell?_alloc_at _ _ _ _ (by simp)]
    simpa using hv
  · intro j
    rw [hd2.frozen (p := ⟨w.heap.size + 1, j, none⟩) (by simp)]
    have := World.frozen?_alloc_mark (w.alloc (.cells #[.string d] 9)) #[.int .i64 0, .int .i64 0, .slice none 0 0, .int .i64 0, .int .i64 0, .int .i64 0] 146 0 0 j
    rw [h1] at this
    rw [this]
    simp
  · intro j v hv
    rw [hb.cell (p := ⟨w.heap.size + 1 + 1, j, none⟩) (by simp)]
    show ((decW w d).alloc (.cells #[.int .i64 0, .int .i64 0, .slice none 0 0, .int .i64 0, .int .i64 0, .int .i64 0] 146)).cell? ⟨w.heap.size + 1 + 1, j, none⟩ = some v
    rw [World.cell?_alloc_at _ _ _ _ (by simp)]
    simpa using hv
  · have := hb.size
    simp at this
    exact this

end Go.Proofs.YtiekfipjbmdkpaaGreatDoor
namespace Go.Proofs.YtiekfipjbmdkpaaGreatDoor
open Go.RowKit Go.Maps
/-- The cells of the map under way: its kind, its number. -/
structure XAt (W : World) (g : Nat) (kk nm : Int) : Prop where
  cells : ∀ (j : Nat) v, (#[.int .i64 kk, .int .i64 nm, .slice none 0 0, .int .i64 0, .int .i64 0, .int .i64 0] : Array Value)[j]? = some v → W.cell? ⟨g, j, none⟩ = some v
  free : ∀ (j : Nat), W.frozen? ⟨g, j, none⟩ = false
  lt : g < W.heap.size
theorem XAt.grown {W W' : World} {g : Nat} {kk nm : Int} {row : Option Nat} (h : XAt W g kk nm) (hg : W.grownBy W' row) (hne : some g ≠ row) : XAt W' g kk nm :=
  ⟨fun j v hv => hg.cell (h.cells j v hv) hne, fun j => (World.frozen?_of_block (hg.block g h.lt hne)).trans (h.free j), Nat.lt_of_lt_of_le h.lt hg.size⟩
theorem XAt.below {W W' : World} {g : Nat} {kk nm : Int} (h : XAt W g kk nm) (hb : Below W.heap.size W W') : XAt W' g kk nm := h.grown (Kit.grown_of_below hb) (by simp)
theorem XAt.new (W : World) (nm : Int) (T : TypeId) : XAt (W.alloc (.cells #[.int .i64 0, .int .i64 nm, .slice none 0 0, .int .i64 0, .int .i64 0, .int .i64 0] T)) W.heap.size 0 nm := by
  refine ⟨fun j v hv => ?_, fun j => ?_, by simp⟩
  · rw [World.cell?_alloc_at _ _ _ _ (by simp)]
    simpa using hv
  · have := World.frozen?_alloc_mark W #[.int .i64 0, .int .i64 nm, .slice none 0 0, .int .i64 0, .int .i64 0, .int .i64 0] T 0 0 j
    rw [this]
    simp
theorem XAt.set {W : World} {g : Nat} {kk nm : Int} (h : XAt W g kk nm) (k : Int) : XAt (W.setCell ⟨g, 0, none⟩ (.int .i64 k)) g k nm := by
  refine ⟨fun j v hv => ?_, fun j => by rw [World.frozen?_setCell]; exact h.free j, by have := h.lt; simpa using this⟩
  rcases j with _ | j
  · have h0 := h.cells 0 _ rfl
    have hv' : Value.int .i64 k = v := by simpa using hv
    rw [World.cell?_setCell_same _ _ _ h0, hv']
  · rw [World.cell?_setCell_other _ _ _ _ (by simp)]
    refine h.cells (j + 1) v ?_
    simpa using hv

def nameK (x : Int) : List UInt8 := if x = 1 then Pm.nameV else if x = 2 then Pm.nameS else Pm.nameM
/-- What the step of a range over the identifiers hands out. -/
theorem idD_step {x : Int} {c : ByteArray} (hat : ∀ zd, idD.atKey (.int .i64 x) zd = .lit (.string c.data.toList)) : (x = 1 ∨ x = 2 ∨ x = 3) ∧ c.data.toList = nameK x := by
  have e : idD = .map [(.int .i64 1, .lit (.string Pm.nameV)), (.int .i64 2, .lit (.string Pm.nameS)), (.int .i64 3, .lit (.string Pm.nameM))] := rfl
  rw [e] at hat
  by_cases h1 : x = 1
  · subst h1
    have h : (DataW.lit (.string Pm.nameV) : DataW Unit) = .lit (.string c.data.toList) := hat .nil
    simp only [DataW.lit.injEq, Lit.string.injEq] at h
    exact ⟨Or.inl rfl, h.symm⟩
  · by_cases h2 : x = 2
    · subst h2
      have h : (DataW.lit (.string Pm.nameS) : DataW Unit) = .lit (.string c.data.toList) := hat .nil
      simp only [DataW.lit.injEq, Lit.string.injEq] at h
      exact ⟨Or.inr (Or.inl rfl), h.symm⟩
    · by_cases h3 : x = 3
      · subst h3
        have h : (DataW.lit (.string Pm.nameM) : DataW Unit) = .lit (.string c.data.toList) := hat .nil
        simp only [DataW.lit.injEq, Lit.string.injEq] at h
        exact ⟨Or.inr (Or.inr rfl), h.symm⟩
      · have h := hat .nil
        simp [DataW.atKey, List.find?, Lit.sameKey, Ne.symm h1, Ne.symm h2, Ne.symm h3] at h
theorem kindOf_name {x : Int} {s : List UInt8} (hx : x = 1 ∨ x = 2 ∨ x = 3) : nameK x = s ↔ Pm.kindOf s = x := by
  have n12 : Pm.nameV ≠ Pm.nameS := by decide
  have n13 : Pm.nameV ≠ Pm.nameM := by decide
  have n23 : Pm.nameS ≠ Pm.nameM := by decide
  unfold Pm.kindOf nameK
  rcases hx with rfl | rfl | rfl
  · rw [if_pos rfl]
    constructor
    · rintro rfl; rw [if_pos rfl]
    · intro h
      by_cases h1 : s = Pm.nameV
      · exact h1.symm
      · rw [if_neg h1] at h
        split at h
        · cases h
        · split at h <;> cases h
  · rw [if_neg (by decide), if_pos rfl]
    constructor
    · rintro rfl; rw [if_neg (Ne.symm n12), if_pos rfl]
    · intro h
      by_cases h1 : s = Pm.nameV
      · rw [if_pos h1] at h; cases h
      · rw [if_neg h1] at h
        by_cases h2 : s = Pm.nameS
        · exact h2.symm
        · rw [if_neg h2] at h
          split at h <;> cases h
  · rw [if_neg (by decide), if_neg (by decide)]
    constructor
    · rintro rfl; rw [if_neg (Ne.symm n13), if_neg (Ne.symm n23), if_pos rfl]
    · intro h
      by_cases h1 : s = Pm.nameV
      · rw [if_pos h1] at h; cases h
      · rw [if_neg h1] at h
        by_cases h2 : s = Pm.nameS
        · rw [if_pos h2] at h; cases h
        · rw [if_neg h2] at h
          by_cases h3 : s = Pm.nameM
          · exact h3.symm
          · rw [if_neg h3] at h; cases h
end Go.Proofs.YtiekfipjbmdkpaaGreatDoor
namespace Go.Proofs.YtiekfipjbmdkpaaGreatDoor
open Go.RowKit Go.Maps

set_option maxHeartbeats 6400000 in
set_option maxRecDepth 100000 in
/-- partitionmap.decode: the second kind, virtual. -/
theorem decode_two_1 (d : ByteArray) (w : World) (P1 P2 : List UInt8) (hcp : ∀ W, Calls Tryz.prog 257 #[.string (d.extract 4 36)] W fun e w' => e = .returned (.tuple #[.string ⟨P1.toArray⟩, .string ⟨P2.toArray⟩, .int .i64 0]) ∧ Below W.heap.size W w') (h2 : 2 ≤ d.size) (h1 : Cs.byt d.data.toList 1 ≤ d.size) (h0 : Cs.byt d.data.toList 0 = 2) (h6 : Cs.byt d.data.toList 1 = 64) (hk : Hid (Pm.kindOf P1 = 1)) (hs : d.size ≤ 4096) :
    Calls Tryz.prog 140 #[.string d] w fun e w' => e = .returned (.tuple #[Pm.pmV ⟨1, (Pm.at_ d.data.toList 38 2 : Int), [], 0, 0, 0⟩ (.slice none 0 0), .int .i64 64, .int .i64 0]) ∧ Below w.heap.size w w' := by
  have hi1 : 1 < d.size := by omega
  have hi0 : 0 < d.size := by omega
  have hy0 := Kit.byt_get d 0 hi0
  have hy1 := Kit.byt_get d 1 hi1
  have hl0 := Cs.byt_lt d.data.toList 0
  have hl1 := Cs.byt_lt d.data.toList 1
  have hw1 := IntWalk.wrap64_in (Cs.byt d.data.toList 1 : Int) (by omega)
  have d2 : decide ((d.size : Int) < 2) = false := decide_eq_false (by omega)
  have d3 : decide ((d.size : Int) < (Cs.byt d.data.toList 1 : Int)) = false := decide_eq_false (by omega)
  have hwk : (Lit.int .u8 (Cs.byt d.data.toList 0 : Int)).wf = true := by
    show (decide (IntKind.min .u8 ≤ (Cs.byt d.data.toList 0 : Int)) && decide ((Cs.byt d.data.toList 0 : Int) ≤ IntKind.max .u8)) = true
    rw [show IntKind.min .u8 = 0 from rfl, show IntKind.max .u8 = 255 from rfl, Bool.and_eq_true, decide_eq_true_eq, decide_eq_true_eq]
    omega
  have hmm := @run_makeMap Tryz.prog
  have H0 : Hid (∀ nq, BMap ((((decW w d).alloc (.cells #[.int .i64 0, .int .i64 0, .slice none 0 0, .int .i64 0, .int .i64 0, .int .i64 0] 146)).drewN nq).alloc (.map #[] 0)) (w.heap.size + 1 + 1 + 1) 0 (.map [])) := Lib.hid fun nq => by
    have h := World.ownsMap_made (((decW w d).alloc (.cells #[.int .i64 0, .int .i64 0, .slice none 0 0, .int .i64 0, .int .i64 0, .int .i64 0] 146)).drewN nq) Tryz.prog 5 asIs
    rw [show (((decW w d).alloc (.cells #[.int .i64 0, .int .i64 0, .slice none 0 0, .int .i64 0, .int .i64 0, .int .i64 0] 146)).drewN nq).heap.size = w.heap.size + 1 + 1 + 1 by simp] at h
    exact h
  go_enter Tryz.func140, Tryz.ntmps140
  go_wp2_with fail
  go_quiet (fail)
  go_wp2_with (refine Kit.wpList_insert_own _ rfl (.tmp 30) _ _ _ rfl 5 3 keyedU8 (by kernel_rfl) _ (w.heap.size + 1 + 1 + 1) 0 _ rfl (H0.out nq) (by unfold maxLen; omega) (.int .u8 1) _ (.int .u8 1) rfl rfl (keyOf_int_mk Tryz.underlying5 (by decide)) _ [] rfl ?_)
  intro w1 hown1 hg1
  have H1 := Lib.hid hown1
  clear hown1
  go_wp2_with (refine Kit.wpList_insert_own _ rfl (.tmp 30) _ _ _ rfl 5 3 keyedU8 (by kernel_rfl) _ (w.heap.size + 1 + 1 + 1) 1 _ rfl H1.out (by unfold maxLen; omega) (.int .u8 2) _ (.int .u8 2) rfl rfl (keyOf_int_mk Tryz.underlying5 (by decide)) _ [] rfl ?_)
  intro w2 hown2 hg2
  have hlk := two_look (Cs.byt d.data.toList 0 : Int) w2 (w.heap.size + 1 + 1 + 1) 2 hown2 hwk
  have hgg := hg1.trans hg2
  have hD : DecAt w d w2 := DecAt.start w d nq (((Below.refl _ _).alloc (by simp) _).grown hgg (by simp) (fun q hq => by cases hq; exact Nat.le_refl _))
  clear hown2 hgg hg1 hg2 H0 H1 hwk
  rw [if_neg (by omega), if_pos (by omega)] at hlk
  clear h0
  have d6 : ((Cs.byt d.data.toList 1 : Int) != 64) = false := by rw [bne_eq_false_iff_eq]; omega
  have h64s : 64 ≤ d.size := by omega
  clear h6
  have hbw2 : Below w.heap.size w w2 := (((Below.refl _ w).alloc (Nat.le_refl _) _).alloc (by simp) _).trans (hD.below.mono (by omega))
  have CP := Lib.hid (hcp w2)
  have hstr := hD.str
  have HD2 := Lib.hid hD
  clear hD hbw2 hcp
  go_wp2_with fail
  refine CP.out.mono ?_
  rintro e w3 ⟨rfl, hb3⟩
  have hD := HD2.out.later hb3
  clear hstr hlk CP
  have d7 : ((0 : Int) != 0) = false := by decide
  have hstr := hD.str
  have HD := Lib.hid hD
  clear hb3 hD HD2 d2 d3 d6 hy0 hy1 hl0 hl1 hw1
  have CN1 := Lib.hid (number_any d 38 2 38 2 rfl rfl w.heap.size w3 (by unfold Pm.Sz; omega) (by omega) (by omega) (by omega) hstr)
  go_wp2_with fail
  refine CN1.out.mono ?_
  rintro e wn ⟨rfl, rfl⟩
  clear CN1
  go_wp2_with fail
  refine (identifiers_any _).mono ?_
  rintro e w4 ⟨bm, rfl, hbm, hS, hb4⟩
  have hX4 : XAt w4 w3.heap.size 0 (Pm.at_ d.data.toList 38 2 : Int) := (XAt.new w3 _ 146).below hb4
  have hsz4 : w3.heap.size + 1 ≤ w4.heap.size := by have := hb4.size; simp at this; exact this
  have hbm' : w3.heap.size + 1 ≤ bm := by simpa using hbm
  have hb34 : Below w3.heap.size w3 w4 := ((Below.refl _ w3).alloc (Nat.le_refl _) _).trans (hb4.mono (by simp))
  clear hb4 hbm hstr d7
  go_wp2_with (at_range; refine wpList_range_own _ rfl _ 391 rfl 3 9 keyedInt (by kernel_rfl) (plainElem Tryz.prog 9) bm 3 _ rfl hS ?_; intro w5 hrg5 hg5 hs5)
  go_frame
  have hX5 := hX4.grown hg5 (by simp)
  have hb35 : Below w3.heap.size w3 w5 := hb34.grown hg5 hb34.size (fun j hj => by cases hj)
  have H5 := Lib.hid (And.intro hX5 hb35)
  clear hX4 hX5 hb34 hb35 hg5 hs5 hS
  go_loopw [12, 13] (fun _ _ wr => ∃ left cnt, wr.ranges Tryz.prog 3 (plainElem Tryz.prog 9) bm w4.heap.size 3 idD left cnt ∧ XAt wr w3.heap.size (if (1 : Int) ≠ 0 ∧ left (.int .i64 1) = false then 1 else 0) (Pm.at_ d.data.toList 38 2 : Int) ∧ Below w3.heap.size w3 wr) (fun _ _ wr => wr.rangeLeft bm w4.heap.size)
  case atStart =>
    refine ⟨_, _, hrg5, ?_, H5.out.2⟩
    rw [if_neg]
    · exact H5.out.1
    · rintro ⟨h0, h⟩
      first | exact absurd (show true = false from h) (by decide) | exact h0 rfl
  case round =>
    obtain ⟨left, cnt, hrg, hX, hbr⟩ := hrel
    go_wp2_with (at_next; refine wpList_next_ranges_is _ rfl _ rfl 3 9 .i64 keyedInt Tryz.underlying3 Tryz.underlying9 bm w4.heap.size 3 _ _ _ rfl hrg ?_ ?_)
    · intro hc0 hl0
      have hXK : XAt wr w3.heap.size 1 (Pm.at_ d.data.toList 38 2 : Int) := by
        have h := hX
        first | (rw [if_pos ⟨by decide, hl0 _⟩] at h; exact h) | (rw [if_neg (by simp)] at h; exact h)
      have hD := HD.out.later hbr
      clear hX hrg hc0 hl0 H5
      have r0 := hD.res 0 _ rfl
      have n0 := hD.non 0 _ rfl
      have f0 := hD.free 0
      have r1 := hD.res 1 _ rfl
      have n1 := hD.non 1 _ rfl
      have f1 := hD.free 1
      have r2 := hD.res 2 _ rfl
      have n2 := hD.non 2 _ rfl
      have f2 := hD.free 2
      have r3 := hD.res 3 _ rfl
      have n3 := hD.non 3 _ rfl
      have f3 := hD.free 3
      have r4 := hD.res 4 _ rfl
      have n4 := hD.non 4 _ rfl
      have f4 := hD.free 4
      have r5 := hD.res 5 _ rfl
      have n5 := hD.non 5 _ rfl
      have f5 := hD.free 5
      have hstr := hD.str
      have x0 := hXK.cells 0 _ rfl
      have x1 := hXK.cells 1 _ rfl
      have x2 := hXK.cells 2 _ rfl
      have x3 := hXK.cells 3 _ rfl
      have x4 := hXK.cells 4 _ rfl
      have x5 := hXK.cells 5 _ rfl
      have g3 := hXK.free 3
      have g4 := hXK.free 4
      have g5 := hXK.free 5
      have HD3 := Lib.hid hD
      clear hD
      go_wp2_with fail
      have hf := dec_fin w d _ HD3.out.below (.int .i64 1) (.int .i64 (Pm.at_ d.data.toList 38 2 : Int)) (.slice none 0 0) (.int .i64 0) (.int .i64 0) (.int .i64 0)
      exact bodyPost_ret (dec_results _ _ (w.heap.size + 1) [.int .i64 1, .int .i64 (Pm.at_ d.data.toList 38 2 : Int), .slice none 0 0, .int .i64 0, .int .i64 0, .int .i64 0] (.int .i64 64) (.int .i64 0) rfl rfl rfl rfl hf.1) rfl ⟨rfl, hf.2⟩
    · intro x c w6 cnt6 hwx hwc hlx hat hrg6 hlt hg6 hs6 hen
      obtain ⟨hx, hc⟩ := idD_step hat
      have hX6 := hX.grown hg6 (fun e => by have := Option.some.inj e; omega)
      have hb6 : Below w3.heap.size w3 w6 := hbr.grown hg6 hbr.size (fun j hj => by cases hj; omega)
      have hcq : c = ⟨(nameK x).toArray⟩ := by rw [← hc]
      have hko := kindOf_name (s := P1) hx
      have HKX := Lib.hid hx
      clear hx hc hat hg6 hs6 hlx H5
      subst hcq
      by_cases hq : nameK x = P1
      · have hKx : (1 : Int) = x := by rw [← hk.out]; exact hko.1 hq
        rw [hq] at hen
        have x0 := hX6.cells 0 _ rfl
        have f0 := hX6.free 0
        have HX6 := Lib.hid hX6
        clear hX6 hko hq
        subst hKx
        go_wp2_with fail
        have hgS := grownBy_setCell' w6 w3.heap.size (.int .i64 1)
        have hrg7 := hrg6.kept hgS (fun e => by have := Option.some.inj e; omega) (fun e => by have := Option.some.inj e; omega)
        go_roundw
        case rel =>
          refine ⟨_, cnt6, hrg7, ?_, hb6.setCell (Nat.le_refl _) _⟩
          first
            | (rw [if_pos ⟨by decide, by simp [Lit.sameKey]⟩]; exact HX6.out.set _)
            | (exfalso; have := HKX.out; omega)
        case measure => rw [hrg7.left_eq, hrg.left_eq]; exact hlt
      · have hKx : ¬ (1 : Int) = x := fun e => hq (hko.2 (hk.out.trans e))
        have hne : (nameK x == P1) = false := by rw [beq_eq_false_iff_ne]; exact hq
        have HX6 := Lib.hid hX6
        clear hX6 hko hq
        go_wp2_with fail
        go_roundw
        case rel =>
          refine ⟨_, cnt6, hrg6, ?_, hb6⟩
          have hs : (left (.int .i64 1) && !(Lit.int .i64 1).sameKey (.int .i64 x)) = left (.int .i64 1) := by simp [Lit.sameKey, hKx]
          rw [hs]
          exact HX6.out
        case measure => rw [hrg6.left_eq, hrg.left_eq]; exact hlt
end Go.Proofs.YtiekfipjbmdkpaaGreatDoor
