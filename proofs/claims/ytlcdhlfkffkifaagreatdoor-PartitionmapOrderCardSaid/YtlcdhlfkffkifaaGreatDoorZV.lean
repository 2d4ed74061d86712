/-
  The walk through the translator's way of metadata partitions.
-/
import Derived.Test.YtlcdhlfkffkifaaGreatDoorZS
import Derived.Test.YtlcdhlfkffkifaaGreatDoorZI
import Derived.Test.YtlcdhlfkffkifaaGreatDoorZM
import Derived.Test.YtlcdhlfkffkifaaGreatDoorZL
import Derived.Test.YtlcdhlfkffkifaaGreatDoorZU
namespace Go.Proofs.YtlcdhlfkffkifaaGreatDoor
open Go.RowKit

set_option maxHeartbeats 3200000 in
set_option maxRecDepth 100000 in
/-- translator.metadata. -/
theorem metadata_any (m : Pm.Mp) (A0 A1 A2 A4 : Option Addr) (n0 n1 n2 n4 c0 c1 c2 c4 : Nat) (v3 : Value) (b : Int) (w : World) (hm : Pm.MpFew m) (hx : Pm.ExtsAt w v3 m.mdat) (hb0 : -9223372036854775808 ≤ b) (hb1 : b ≤ 9223372036854775807) :
    Calls Tryz.prog 43 #[Pm.mpV m (.slice A0 n0 c0) (.slice A1 n1 c1) (.slice A2 n2 c2) v3 (.slice A4 n4 c4), .int .i64 b] w fun e w' => e = .returned (.tuple #[.int .i64 (if (Pm.locX m.mdat b).2.2 ≠ 0 then ((0 : Int), (2 : Int)) else Pm.phys m (Pm.locX m.mdat b).1.1).1, .int .i64 (if (Pm.locX m.mdat b).2.2 ≠ 0 then ((0 : Int), (2 : Int)) else Pm.phys m (Pm.locX m.mdat b).1.1).2]) ∧ Below w.heap.size w w' := by
  have HX := Lib.hid hx
  obtain ⟨A3, c3, rfl, hlc, hcm, _⟩ := hx.row
  have CL := Lib.hid (fun W h => aLocate_any (.slice A3 m.mdat.length c3) m.mdat b W h hb0 hb1)
  have CP := Lib.hid (fun r W => physical_any m A0 A1 A2 A3 A4 n0 n1 n2 m.mdat.length n4 c0 c1 c2 c3 c4 r W hm)
  unfold locV at CL
  generalize Pm.locX m.mdat b = r at *
  obtain ⟨⟨rb, rp⟩, rk, re⟩ := r
  have CQ := Lib.hid (CP.out rb)
  clear CP hm hx
  generalize hP : Pm.phys m rb = P at *
  clear hP
  obtain ⟨P1, P2⟩ := P
  unfold Pm.mpV at *
  obtain ⟨maps, s, n, vat, sps, me⟩ := m
  simp only [] at *
  by_cases he : re = 0
  · rw [if_neg (by simp [he])]
    subst he
    go_enter Tryz.func43, Tryz.ntmps43
    go_wp2_with fail
    refine (CL.out _ (HX.out.below ((Below.refl _ _).alloc (Nat.le_refl _) _))).mono ?_
    rintro e w2 ⟨rfl, hb2⟩
    have hbx : ∀ k u, (#[.slice A0 n0 c0, .int .i64 s, .int .i64 n, .slice A1 n1 c1, .slice A2 n2 c2, .slice A3 me.length c3, .slice A4 n4 c4] : Array Value)[k]? = some u → w2.cell? ⟨w.heap.size, k, none⟩ = some u := fun k u hu => by
      refine (hb2.cell (p := ⟨w.heap.size, k, none⟩) (by simp)).trans ?_
      rw [World.cell?_alloc_at _ _ _ _ (by simp)]
      simpa using hu
    have hlt : w.heap.size < w2.heap.size := by have := hb2.size; simp at this; omega
    have hby : ∀ k u, (#[.slice A0 n0 c0, .int .i64 s, .int .i64 n, .slice A1 n1 c1, .slice A2 n2 c2, .slice A3 me.length c3, .slice A4 n4 c4] : Array Value)[k]? = some u → (w2.alloc (.cells #[.int .i64 rb, .int .i64 rp] 43)).cell? ⟨w.heap.size, k, none⟩ = some u := fun k u hu =>
      (((Below.refl w2.heap.size w2).alloc (Nat.le_refl _) _).cell (p := ⟨w.heap.size, k, none⟩) hlt).trans (hbx k u hu)
    have x0 := hby 0 _ rfl
    have x1 := hby 1 _ rfl
    have x2 := hby 2 _ rfl
    have x3 := hby 3 _ rfl
    have x4 := hby 4 _ rfl
    have x5 := hby 5 _ rfl
    have x6 := hby 6 _ rfl
    have HCW := Lib.hid (((Below.refl _ _).alloc (Nat.le_refl _) _).trans (hb2.mono (B' := w.heap.size) (by simp)))
    clear hbx hby hb2 CL
    go_wp2_with fail
    refine (CQ.out _).mono ?_
    rintro e w3 ⟨rfl, hb3⟩
    go_wp2_with fail
    go_ret2
    exact ⟨rfl, HCW.out.trans (((Below.refl _ w2).alloc (Nat.le_refl _) _).trans (hb3.mono (by simp)) |>.mono HCW.out.size)⟩
  · rw [if_pos he]
    have de : (re != 0) = true := by rw [bne_iff_ne]; exact he
    clear CQ he
    go_enter Tryz.func43, Tryz.ntmps43
    go_wp2_with fail
    refine (CL.out _ (HX.out.below ((Below.refl _ _).alloc (Nat.le_refl _) _))).mono ?_
    rintro e w2 ⟨rfl, hb2⟩
    have HCW := Lib.hid (((Below.refl _ _).alloc (Nat.le_refl _) _).trans (hb2.mono (B' := w.heap.size) (by simp)))
    clear hb2 CL
    go_wp2_with fail
    go_ret2
    exact ⟨rfl, HCW.out.trans ((Below.refl _ w2).alloc (Nat.le_refl _) _ |>.mono HCW.out.size)⟩
end Go.Proofs.YtlcdhlfkffkifaaGreatDoor

/-
  The program's Translate, whole.
-/
namespace Go.Proofs.YtlcdhlfkffkifaaGreatDoor
open Go.RowKit
/-- partitionmap.Translate, for any mapping that is small. -/
theorem translate_all (m : Pm.Mp) (v0 v1 v2 v3 : Value) (A4 : Option Addr) (n4 c4 : Nat) (T : Nat → Value) (b p : Int) (w : World) (hm : Pm.MpFew m) (hp : Pm.MpAt w m v1 v2) (hl : Pm.MapsAt w v0 m.maps T) (hf : Pm.Few m.maps) (hx : Pm.ExtsAt w v3 m.mdat) (hb0 : -9223372036854775808 ≤ b) (hb1 : b ≤ 9223372036854775807) :
    Calls Tryz.prog 21 #[Pm.mpV m v0 v1 v2 v3 (.slice A4 n4 c4), .agg #[.int .i64 b, .int .i64 p]] w fun e w' => e = .returned (.tuple #[.int .i64 (Pm.transR m b p).1, .int .i64 (Pm.transR m b p).2]) ∧ Below w.heap.size w w' := by
  obtain ⟨A3, c3, hv3, _⟩ := hx.row
  subst hv3
  refine translate_any m v0 v1 v2 A3 A4 m.mdat.length n4 c3 c4 T b p w hm hp hl hf hb0 hb1 (fun W hW h0 h1 hk => ?_)
  obtain ⟨A0, c0, hv0, _⟩ := hl.row
  obtain ⟨A1, c1, hv1, _⟩ := hp.vat
  obtain ⟨A2, c2, hv2, _⟩ := hp.spares
  subst hv0 hv1 hv2
  have e : Pm.transR m b p = (if (Pm.locX m.mdat b).2.2 ≠ 0 then ((0 : Int), (2 : Int)) else Pm.phys m (Pm.locX m.mdat b).1.1) := by
    unfold Pm.transR
    rw [if_neg (by omega)]
    dsimp only
    rw [hk, if_neg (by decide), if_neg (by decide), if_neg (by decide), if_pos rfl]
  rw [e]
  exact metadata_any m A0 A1 A2 A4 _ _ _ n4 c0 c1 c2 c4 (.slice A3 m.mdat.length c3) b W hm (hx.below hW) hb0 hb1
end Go.Proofs.YtlcdhlfkffkifaaGreatDoor

/-
  Structs of two ints and extents among the arguments, opened.
-/
namespace Go.Proofs.YtlcdhlfkffkifaaGreatDoor
open Go.RowKit
namespace Frame
theorem i64_wf {z : Int} (h : -9223372036854775808 ≤ z ∧ z ≤ 9223372036854775807) : (Lit.int .i64 z).wf = true := by
  show (decide (IntKind.min .i64 ≤ z) && decide (z ≤ IntKind.max .i64)) = true
  rw [show IntKind.min .i64 = -9223372036854775808 from rfl, show IntKind.max .i64 = 9223372036854775807 from rfl, Bool.and_eq_true, decide_eq_true_eq, decide_eq_true_eq]
  exact h
section
variable {H : Type} {enc : TypeId × Value → H} {w : World} {base : Nat} {spare : Nat → Bool} {held : Bool}
/-- A struct of two ints that reads. -/
theorem twoAt {n : Nat} {t : TypeId} {fs : Array Field} {c0 c1 : Value} {x : DataW H × List MemPlace} (hs : Tryz.prog.underlying t = some (.struct fs)) (f0 : (fs[0]?).map (fun f => (f.offset, f.type)) = some (0, 3)) (f1 : (fs[1]?).map (fun f => (f.offset, f.type)) = some (1, 3))
    (h : DataW.trod enc Tryz.prog w base spare held n t [c0, c1] = some x) : ∃ y z : Int, c0 = .int .i64 y ∧ c1 = .int .i64 z ∧ (-9223372036854775808 ≤ y ∧ y ≤ 9223372036854775807) ∧ (-9223372036854775808 ≤ z ∧ z ≤ 9223372036854775807) := by
  have ki : Tryz.prog.cellsOf 3 = 1 := by kernel_rfl
  obtain ⟨_, _, h0⟩ := field hs h 0 0 1 3 f0 ki
  obtain ⟨_, _, h1⟩ := field hs h 1 1 1 3 f1 ki
  obtain ⟨y, rfl, hy⟩ := intAt h0
  obtain ⟨z, rfl, hz⟩ := intAt h1
  exact ⟨y, z, rfl, rfl, hy, hz⟩
theorem two_list {cs : List Value} (h : cs.length = 2) : ∃ a b, cs = [a, b] := by
  match cs, h with
  | [a, b], _ => exact ⟨a, b, rfl⟩
/-- An extent that reads. -/
theorem extAt {n : Nat} {cs : List Value} {x : DataW H × List MemPlace} (hl : cs.length = 4) (h : DataW.trod enc Tryz.prog w base spare held n 49 cs = some x) :
    ∃ z0 z1 z2 z3 : Int, cs = [.int .i64 z0, .int .i64 z1, .int .i64 z2, .int .i64 z3] ∧ (-9223372036854775808 ≤ z0 ∧ z0 ≤ 9223372036854775807) ∧ (-9223372036854775808 ≤ z1 ∧ z1 ≤ 9223372036854775807) ∧ (-9223372036854775808 ≤ z2 ∧ z2 ≤ 9223372036854775807) ∧ (-9223372036854775808 ≤ z3 ∧ z3 ≤ 9223372036854775807) := by
  obtain ⟨c0, c1, c2, c3, rfl⟩ : ∃ c0 c1 c2 c3, cs = [c0, c1, c2, c3] := by
    match cs, hl with
    | [c0, c1, c2, c3], _ => exact ⟨c0, c1, c2, c3, rfl⟩
  have hs := Tryz.underlying49
  have ki : Tryz.prog.cellsOf 3 = 1 := by kernel_rfl
  have ka : Tryz.prog.cellsOf 43 = 2 := by kernel_rfl
  obtain ⟨_, _, h0⟩ := field hs h 0 0 1 3 (by rfl) ki
  obtain ⟨_, _, h1⟩ := field hs h 1 1 1 3 (by rfl) ki
  obtain ⟨_, _, h2⟩ := field hs h 2 2 2 43 (by rfl) ka
  obtain ⟨z0, rfl, b0⟩ := intAt h0
  obtain ⟨z1, rfl, b1⟩ := intAt h1
  obtain ⟨z2, z3, rfl, rfl, b2, b3⟩ := twoAt Tryz.underlying43 (by rfl) (by rfl) h2
  exact ⟨z0, z1, z2, z3, rfl, b0, b1, b2, b3⟩
end
theorem arr2 {cs : Array Value} (h : cs.size = 2) : ∃ a b, cs = #[a, b] := by
  obtain ⟨l⟩ := cs
  match l, h with
  | [a, b], _ => exact ⟨a, b, rfl⟩
set_option maxRecDepth 100000 in
/-- A struct of two ints among the arguments. -/
theorem open_two {H : Type} {enc : TypeId × Value → H} {base : Nat} {t : TypeId} {fs : Array Field} (hs : Tryz.prog.underlying t = some (.struct fs)) (f0 : (fs[0]?).map (fun f => (f.offset, f.type)) = some (0, 3)) (f1 : (fs[1]?).map (fun f => (f.offset, f.type)) = some (1, 3)) (hc : Tryz.prog.cellsOf t = 2)
    (W : World) (v : Value) (d : DataW H) (p : List MemPlace) (hval : Value.okWide Tryz.prog W .any base t v)
    (h : DataW.Trod enc Tryz.prog W 0 (fun _ => true) true t v d p) : ∃ y z : Int, v = .agg #[.int .i64 y, .int .i64 z] ∧ (-9223372036854775808 ≤ y ∧ y ≤ 9223372036854775807) ∧ (-9223372036854775808 ≤ z ∧ z ≤ 9223372036854775807) := by
  obtain ⟨cs, rfl, hsz⟩ := Go.WideShapes.okWide_struct hs hval
  obtain ⟨a, b, rfl⟩ := arr2 (hsz.trans hc)
  obtain ⟨fuel, hf⟩ := h
  have hf' : DataW.trod enc Tryz.prog W 0 (fun _ => true) true fuel t [a, b] = some (d, p) := hf
  obtain ⟨y, z, rfl, rfl, hy, hz⟩ := twoAt hs f0 f1 hf'
  exact ⟨y, z, rfl, hy, hz⟩
set_option maxRecDepth 100000 in
theorem open_span {H : Type} {enc : TypeId × Value → H} {base : Nat} (W : World) (v : Value) (d : DataW H) (p : List MemPlace) (hval : Value.okWide Tryz.prog W .any base 37 v)
    (h : DataW.Trod enc Tryz.prog W 0 (fun _ => true) true 37 v d p) : ∃ y z : Int, v = .agg #[.int .i64 y, .int .i64 z] ∧ (-9223372036854775808 ≤ y ∧ y ≤ 9223372036854775807) ∧ (-9223372036854775808 ≤ z ∧ z ≤ 9223372036854775807) :=
  open_two Tryz.underlying37 (by rfl) (by rfl) (by kernel_rfl) W v d p hval h
set_option maxRecDepth 100000 in
theorem open_spare {H : Type} {enc : TypeId × Value → H} {base : Nat} (W : World) (v : Value) (d : DataW H) (p : List MemPlace) (hval : Value.okWide Tryz.prog W .any base 57 v)
    (h : DataW.Trod enc Tryz.prog W 0 (fun _ => true) true 57 v d p) : ∃ y z : Int, v = .agg #[.int .i64 y, .int .i64 z] ∧ (-9223372036854775808 ≤ y ∧ y ≤ 9223372036854775807) ∧ (-9223372036854775808 ≤ z ∧ z ≤ 9223372036854775807) :=
  open_two Tryz.underlying57 (by rfl) (by rfl) (by kernel_rfl) W v d p hval h
set_option maxRecDepth 100000 in
theorem open_address {H : Type} {enc : TypeId × Value → H} {base : Nat} (W : World) (v : Value) (d : DataW H) (p : List MemPlace) (hval : Value.okWide Tryz.prog W .any base 43 v)
    (h : DataW.Trod enc Tryz.prog W 0 (fun _ => true) true 43 v d p) : ∃ y z : Int, v = .agg #[.int .i64 y, .int .i64 z] ∧ (-9223372036854775808 ≤ y ∧ y ≤ 9223372036854775807) ∧ (-9223372036854775808 ≤ z ∧ z ≤ 9223372036854775807) :=
  open_two Tryz.underlying43 (by rfl) (by rfl) (by kernel_rfl) W v d p hval h
end Frame
end Go.Proofs.YtlcdhlfkffkifaaGreatDoor

/-
  Mappings and extents among the arguments, opened.
-/
namespace Go.Proofs.YtlcdhlfkffkifaaGreatDoor
open Go.RowKit
namespace Frame
section
variable {H : Type} {enc : TypeId × Value → H} {w : World} {base : Nat} {spare : Nat → Bool} {held : Bool}
/-- A slice of structs of two ints that reads. -/
theorem open_pairs {n : Nat} {t e : TypeId} {fs : Array Field} {c : Value} {y : DataW H × List MemPlace} (ht : Tryz.prog.underlying t = some (.slice e)) (hs : Tryz.prog.underlying e = some (.struct fs)) (f0 : (fs[0]?).map (fun f => (f.offset, f.type)) = some (0, 3)) (f1 : (fs[1]?).map (fun f => (f.offset, f.type)) = some (1, 3)) (hc : Tryz.prog.cellsOf e = 2)
    (h : DataW.trod enc Tryz.prog w base spare held n t [c] = some y) :
    ∃ l : List (Int × Int), Kit.RowN w c 2 l.length (fun j => Pm.spC (l.getD j (0, 0))) ∧ ∀ x ∈ l, (-9223372036854775808 ≤ x.1 ∧ x.1 ≤ 9223372036854775807) ∧ (-9223372036854775808 ≤ x.2 ∧ x.2 ≤ 9223372036854775807) := by
  obtain ⟨A, len, cap, rfl, hle, hmax, hnone, hel⟩ := open_elems ht hc (by decide) h
  by_cases hl : 0 < len
  · obtain ⟨b, o, rfl, hb, hx⟩ := hel hl
    obtain ⟨f, hf⟩ := Go.Deep.choose_lt (α := Int × Int) (n := len) (p := fun i z => (∀ k u, (Pm.spC z)[k]? = some u → w.cell? ⟨b, o + i * 2 + k, none⟩ = some u) ∧ (-9223372036854775808 ≤ z.1 ∧ z.1 ≤ 9223372036854775807) ∧ (-9223372036854775808 ≤ z.2 ∧ z.2 ≤ 9223372036854775807)) (fun i hi => by
      obtain ⟨cs, m, x, hcl, hat, ht⟩ := hx i hi
      obtain ⟨c0, c1, rfl⟩ := two_list hcl
      obtain ⟨z0, z1, rfl, rfl, b0, b1⟩ := twoAt hs f0 f1 ht
      exact ⟨(z0, z1), hat, b0, b1⟩)
    have hlen : ((List.range len).map f).length = len := by simp
    have hg : ∀ j, j < len → ((List.range len).map f).getD j (0, 0) = f j := fun j hj => by simp [List.getD, hj]
    refine ⟨(List.range len).map f, ⟨some ⟨b, o, none⟩, cap, by rw [hlen], by rw [hlen]; exact hle, hmax, fun _ => ⟨b, o, rfl, hb, fun j hj k u hu => ?_⟩⟩, fun x hx => ?_⟩
    · rw [hlen] at hj
      have hu' : (Pm.spC (((List.range len).map f).getD j (0, 0)))[k]? = some u := hu
      rw [hg j hj] at hu'
      exact (hf j hj).1 k u hu'
    · obtain ⟨i, hi, rfl⟩ := List.mem_map.1 hx
      exact (hf i (by simpa using hi)).2
  · obtain rfl : len = 0 := by omega
    exact ⟨[], ⟨A, cap, rfl, Nat.zero_le _, hmax, fun h => absurd h (by decide)⟩, fun x hx => by cases hx⟩
/-- A slice of extents that reads. -/
theorem open_exts {n : Nat} {c : Value} {y : DataW H × List MemPlace} (h : DataW.trod enc Tryz.prog w base spare held n 39 [c] = some y) : ∃ l : List Pm.X, Pm.ExtsAt w c l := by
  obtain ⟨A, len, cap, rfl, hle, hmax, hnone, hel⟩ := open_elems Tryz.underlying39 (show Tryz.prog.cellsOf 49 = 4 by kernel_rfl) (by decide) h
  by_cases hl : 0 < len
  · obtain ⟨b, o, rfl, hb, hx⟩ := hel hl
    have : Inhabited Pm.X := ⟨Pm.x0⟩
    obtain ⟨f, hf⟩ := Go.Deep.choose_lt (α := Pm.X) (n := len) (p := fun i z => (∀ k u, (Pm.exC z)[k]? = some u → w.cell? ⟨b, o + i * 4 + k, none⟩ = some u)) (fun i hi => by
      obtain ⟨cs, m, x, hcl, hat, ht⟩ := hx i hi
      obtain ⟨z0, z1, z2, z3, rfl, _⟩ := extAt hcl ht
      exact ⟨⟨z0, z1, z2, z3⟩, hat⟩)
    have hlen : ((List.range len).map f).length = len := by simp
    have hg : ∀ j, j < len → ((List.range len).map f).getD j Pm.x0 = f j := fun j hj => by simp [List.getD, hj]
    refine ⟨(List.range len).map f, ⟨⟨some ⟨b, o, none⟩, cap, by rw [hlen], by rw [hlen]; exact hle, hmax, fun _ => ⟨b, o, rfl, hb, fun j hj k u hu => ?_⟩⟩⟩⟩
    rw [hlen] at hj
    have hu' : (Pm.exC (((List.range len).map f).getD j Pm.x0))[k]? = some u := hu
    rw [hg j hj] at hu'
    exact hf j hj k u hu'
  · obtain rfl : len = 0 := by omega
    exact ⟨[], ⟨⟨A, cap, rfl, Nat.zero_le _, hmax, fun h => absurd h (by decide)⟩⟩⟩
/-- What a mapping among the arguments reads as. -/
structure MapIn (W : World) (v : Value) (m : Pm.Mp) (v0 v1 v2 v3 v4 : Value) (n4 : Nat) (T : Nat → Value) : Prop where
  val : v = Pm.mpV m v0 v1 v2 v3 v4
  maps : Pm.MapsAt W v0 m.maps T
  vat : Kit.RowS W v1 (Kit.izs m.vat)
  spares : Kit.RowN W v2 2 m.spares.length (fun j => Pm.spC (m.spares.getD j (0, 0)))
  mdat : Pm.ExtsAt W v3 m.mdat
  mirror : ∃ A c, v4 = .slice A n4 c ∧ n4 ≤ c ∧ c ≤ maxLen
  s : -9223372036854775808 ≤ m.start ∧ m.start ≤ 9223372036854775807
  c : -9223372036854775808 ≤ m.count ∧ m.count ≤ 9223372036854775807
  vats : ∀ z ∈ m.vat, -9223372036854775808 ≤ z ∧ z ≤ 9223372036854775807
  sps : ∀ x ∈ m.spares, (-9223372036854775808 ≤ x.1 ∧ x.1 ≤ 9223372036854775807) ∧ (-9223372036854775808 ≤ x.2 ∧ x.2 ≤ 9223372036854775807)
end
theorem arr7 {cs : Array Value} (h : cs.size = 7) : ∃ a b c d e f g, cs = #[a, b, c, d, e, f, g] := by
  obtain ⟨l⟩ := cs
  match l, h with
  | [a, b, c, d, e, f, g], _ => exact ⟨a, b, c, d, e, f, g, rfl⟩
theorem arr4 {cs : Array Value} (h : cs.size = 4) : ∃ a b c d, cs = #[a, b, c, d] := by
  obtain ⟨l⟩ := cs
  match l, h with
  | [a, b, c, d], _ => exact ⟨a, b, c, d, rfl⟩
set_option maxRecDepth 100000 in
/-- A mapping among the arguments. -/
theorem open_mapping {H : Type} {enc : TypeId × Value → H} {base : Nat} (W : World) (v : Value) (d : DataW H) (p : List MemPlace) (hval : Value.okWide Tryz.prog W .any base 41 v)
    (h : DataW.Trod enc Tryz.prog W 0 (fun _ => true) true 41 v d p) : ∃ m v0 v1 v2 v3 v4 n4 T, MapIn W v m v0 v1 v2 v3 v4 n4 T := by
  have hs := Tryz.underlying41
  obtain ⟨cs, rfl, hsz⟩ := Go.WideShapes.okWide_struct hs hval
  obtain ⟨c0, c1, c2, c3, c4, c5, c6, rfl⟩ := arr7 (hsz.trans (show Tryz.prog.cellsOf 41 = 7 by kernel_rfl))
  obtain ⟨fuel, hf⟩ := h
  have hf' : DataW.trod enc Tryz.prog W 0 (fun _ => true) true fuel 41 [c0, c1, c2, c3, c4, c5, c6] = some (d, p) := hf
  obtain ⟨_, _, h0⟩ := field hs hf' 0 0 1 22 (by rfl) (by kernel_rfl)
  obtain ⟨_, _, h1⟩ := field hs hf' 1 1 2 37 (by rfl) (by kernel_rfl)
  obtain ⟨_, _, h2⟩ := field hs hf' 2 3 1 32 (by rfl) (by kernel_rfl)
  obtain ⟨_, _, h3⟩ := field hs hf' 3 4 1 38 (by rfl) (by kernel_rfl)
  obtain ⟨_, _, h4⟩ := field hs hf' 4 5 1 39 (by rfl) (by kernel_rfl)
  obtain ⟨_, _, h5⟩ := field hs hf' 5 6 1 39 (by rfl) (by kernel_rfl)
  obtain ⟨l, T, hm⟩ := open_maps h0
  obtain ⟨s, c, rfl, rfl, bs, bc⟩ := twoAt Tryz.underlying37 (by rfl) (by rfl) h1
  obtain ⟨vat, hv, bv⟩ := open_rowS h2
  obtain ⟨sp, hsp, bsp⟩ := open_pairs Tryz.underlying38 Tryz.underlying57 (by rfl) (by rfl) (by kernel_rfl) h3
  obtain ⟨me, hme⟩ := open_exts h4
  obtain ⟨mi, hmi⟩ := open_exts h5
  obtain ⟨A, cc, hv4, hl4, hm4, _⟩ := hmi.row
  exact ⟨⟨l, s, c, vat, sp, me⟩, c0, c3, c4, c5, c6, mi.length, T, rfl, hm, hv, hsp, hme, ⟨A, cc, hv4, hl4, hm4⟩, bs, bc, bv, bsp⟩
set_option maxRecDepth 100000 in
/-- An extent among the arguments. -/
theorem open_extent {H : Type} {enc : TypeId × Value → H} {base : Nat} (W : World) (v : Value) (d : DataW H) (p : List MemPlace) (hval : Value.okWide Tryz.prog W .any base 49 v)
    (h : DataW.Trod enc Tryz.prog W 0 (fun _ => true) true 49 v d p) : ∃ x : Pm.X, v = Pm.exV x ∧ (-9223372036854775808 ≤ x.kind ∧ x.kind ≤ 9223372036854775807) ∧ (-9223372036854775808 ≤ x.length ∧ x.length ≤ 9223372036854775807) ∧ (-9223372036854775808 ≤ x.block ∧ x.block ≤ 9223372036854775807) ∧ (-9223372036854775808 ≤ x.part ∧ x.part ≤ 9223372036854775807) := by
  have hs := Tryz.underlying49
  obtain ⟨cs, rfl, hsz⟩ := Go.WideShapes.okWide_struct hs hval
  obtain ⟨c0, c1, c2, c3, rfl⟩ := arr4 (hsz.trans (show Tryz.prog.cellsOf 49 = 4 by kernel_rfl))
  obtain ⟨fuel, hf⟩ := h
  have hf' : DataW.trod enc Tryz.prog W 0 (fun _ => true) true fuel 49 [c0, c1, c2, c3] = some (d, p) := hf
  obtain ⟨z0, z1, z2, z3, hcs, b0, b1, b2, b3⟩ := extAt rfl hf'
  simp only [List.cons.injEq, and_true] at hcs
  obtain ⟨rfl, rfl, rfl, rfl⟩ := hcs
  exact ⟨⟨z0, z1, z2, z3⟩, rfl, b0, b1, b2, b3⟩
end Frame
end Go.Proofs.YtlcdhlfkffkifaaGreatDoor

/-
  The walk through the reference's Few.
-/
namespace Go.Proofs.YtlcdhlfkffkifaaGreatDoor
open Go.RowKit
/-- What a small mapping is. -/
structure FewOk (m : Pm.Mp) : Prop where
  few : Pm.MpFew m
  maps : Pm.Few m.maps
  mdat : m.mdat.length ≤ 70
/-- What Few answers. -/
def FewP (m : Pm.Mp) (w : World) (e : Ending) (w' : World) : Prop := ∃ b : Bool, e = .returned (.bool b) ∧ (b = true → FewOk m) ∧ Below w.heap.size w w'
theorem FewP.no {m : Pm.Mp} {w w' : World} {e : Ending} (he : e = .returned (.bool false)) (h : Below w.heap.size w w') : FewP m w e w' := ⟨false, he, (fun h => by cases h), h⟩
theorem FewP.yes {m : Pm.Mp} {w w' : World} {e : Ending} (he : e = .returned (.bool true)) (hm : FewOk m) (h : Below w.heap.size w w') : FewP m w e w' := ⟨true, he, (fun _ => hm), h⟩

set_option maxHeartbeats 25600000 in
set_option maxRecDepth 100000 in
/-- masterdiscref37.Few. -/
theorem few_any (v : Value) (m : Pm.Mp) (v0 v1 v2 v3 v4 : Value) (n4 : Nat) (T : Nat → Value) (w : World) (h : Frame.MapIn w v m v0 v1 v2 v3 v4 n4 T) :
    Calls Tryz.prog 20 #[v] w (FewP m w) := by
  have hval := h.val
  subst hval
  have CF := Lib.hid (fun W hm => fewMaps_any v0 m.maps T W hm)
  have HM := Lib.hid h.maps
  have HS := Lib.hid h.spares
  have hvats := h.vats
  have HV := Lib.hid hvats
  obtain ⟨A0, c0, rfl, hl0, hm0, _⟩ := h.maps.row
  obtain ⟨A1, c1, rfl, hl1, hm1, _⟩ := h.vat.1
  obtain ⟨A2, c2, rfl, hl2, hm2, _⟩ := h.spares
  obtain ⟨A3, c3, rfl, hl3, hm3, _⟩ := h.mdat.row
  obtain ⟨A4, c4, rfl, hl4, hm4⟩ := h.mirror
  rw [Kit.izs_length] at *
  unfold maxLen at hm0 hm1 hm2 hm3 hm4
  clear h hvats
  have HFM := Lib.hid (fun (hf : Pm.fewB m.maps = true) => Pm.few_of hf)
  have hfb : Pm.fewB m.maps = false ∨ Pm.fewB m.maps = true := by cases Pm.fewB m.maps <;> simp
  generalize Pm.fewB m.maps = fb at *
  unfold Pm.mpV
  obtain ⟨maps, s, c, vat, sps, me⟩ := m
  simp only [] at *
  rcases hfb with rfl | rfl
  · clear HFM
    go_enter Tryz.func20, Tryz.ntmps20
    go_wp2_with fail
    refine (CF.out _ (HM.out.below ((Below.refl _ _).alloc (Nat.le_refl _) _))).mono ?_
    rintro e w2 ⟨rfl, rfl⟩
    go_wp2_with fail
    go_ret
    exact FewP.no rfl ((Below.refl _ _).alloc (Nat.le_refl _) _)
  by_cases g0 : 100 < (vat.length : Int)
  · have d0 : decide (100 < (vat.length : Int)) = true := decide_eq_true g0
    clear HFM
    go_enter Tryz.func20, Tryz.ntmps20
    go_wp2_with fail
    refine (CF.out _ (HM.out.below ((Below.refl _ _).alloc (Nat.le_refl _) _))).mono ?_
    rintro e w2 ⟨rfl, rfl⟩
    go_wp2_with fail
    go_ret
    exact FewP.no rfl ((Below.refl _ _).alloc (Nat.le_refl _) _)
  by_cases g1 : 20 < (sps.length : Int)
  · have d0 : decide (100 < (vat.length : Int)) = false := decide_eq_false g0
    have d1 : decide (20 < (sps.length : Int)) = true := decide_eq_true g1
    clear HFM
    go_enter Tryz.func20, Tryz.ntmps20
    go_wp2_with fail
    refine (CF.out _ (HM.out.below ((Below.refl _ _).alloc (Nat.le_refl _) _))).mono ?_
    rintro e w2 ⟨rfl, rfl⟩
    go_wp2_with fail
    go_ret
    exact FewP.no rfl ((Below.refl _ _).alloc (Nat.le_refl _) _)
  by_cases g2 : 70 < (me.length : Int)
  · have d0 : decide (100 < (vat.length : Int)) = false := decide_eq_false g0
    have d1 : decide (20 < (sps.length : Int)) = false := decide_eq_false g1
    have d2 : decide (70 < (me.length : Int)) = true := decide_eq_true g2
    clear HFM
    go_enter Tryz.func20, Tryz.ntmps20
    go_wp2_with fail
    refine (CF.out _ (HM.out.below ((Below.refl _ _).alloc (Nat.le_refl _) _))).mono ?_
    rintro e w2 ⟨rfl, rfl⟩
    go_wp2_with fail
    go_ret
    exact FewP.no rfl ((Below.refl _ _).alloc (Nat.le_refl _) _)
  by_cases g3 : 70 < (n4 : Int)
  · have d0 : decide (100 < (vat.length : Int)) = false := decide_eq_false g0
    have d1 : decide (20 < (sps.length : Int)) = false := decide_eq_false g1
    have d2 : decide (70 < (me.length : Int)) = false := decide_eq_false g2
    have d3 : decide (70 < (n4 : Int)) = true := decide_eq_true g3
    clear HFM
    go_enter Tryz.func20, Tryz.ntmps20
    go_wp2_with fail
    refine (CF.out _ (HM.out.below ((Below.refl _ _).alloc (Nat.le_refl _) _))).mono ?_
    rintro e w2 ⟨rfl, rfl⟩
    go_wp2_with fail
    go_ret
    exact FewP.no rfl ((Below.refl _ _).alloc (Nat.le_refl _) _)
  by_cases g4 : s < -1099511627776
  · have d0 : decide (100 < (vat.length : Int)) = false := decide_eq_false g0
    have d1 : decide (20 < (sps.length : Int)) = false := decide_eq_false g1
    have d2 : decide (70 < (me.length : Int)) = false := decide_eq_false g2
    have d3 : decide (70 < (n4 : Int)) = false := decide_eq_false g3
    have d4 : decide (s < -1099511627776) = true := decide_eq_true g4
    clear HFM
    go_enter Tryz.func20, Tryz.ntmps20
    go_wp2_with fail
    refine (CF.out _ (HM.out.below ((Below.refl _ _).alloc (Nat.le_refl _) _))).mono ?_
    rintro e w2 ⟨rfl, rfl⟩
    go_wp2_with fail
    go_ret
    exact FewP.no rfl ((Below.refl _ _).alloc (Nat.le_refl _) _)
  by_cases g5 : 1099511627776 < s
  · have d0 : decide (100 < (vat.length : Int)) = false := decide_eq_false g0
    have d1 : decide (20 < (sps.length : Int)) = false := decide_eq_false g1
    have d2 : decide (70 < (me.length : Int)) = false := decide_eq_false g2
    have d3 : decide (70 < (n4 : Int)) = false := decide_eq_false g3
    have d4 : decide (s < -1099511627776) = false := decide_eq_false g4
    have d5 : decide (1099511627776 < s) = true := decide_eq_true g5
    clear HFM
    go_enter Tryz.func20, Tryz.ntmps20
    go_wp2_with fail
    refine (CF.out _ (HM.out.below ((Below.refl _ _).alloc (Nat.le_refl _) _))).mono ?_
    rintro e w2 ⟨rfl, rfl⟩
    go_wp2_with fail
    go_ret
    exact FewP.no rfl ((Below.refl _ _).alloc (Nat.le_refl _) _)
  by_cases g6 : 1099511627776 < c
  · have d0 : decide (100 < (vat.length : Int)) = false := decide_eq_false g0
    have d1 : decide (20 < (sps.length : Int)) = false := decide_eq_false g1
    have d2 : decide (70 < (me.length : Int)) = false := decide_eq_false g2
    have d3 : decide (70 < (n4 : Int)) = false := decide_eq_false g3
    have d4 : decide (s < -1099511627776) = false := decide_eq_false g4
    have d5 : decide (1099511627776 < s) = false := decide_eq_false g5
    have d6 : decide (1099511627776 < c) = true := decide_eq_true g6
    clear HFM
    go_enter Tryz.func20, Tryz.ntmps20
    go_wp2_with fail
    refine (CF.out _ (HM.out.below ((Below.refl _ _).alloc (Nat.le_refl _) _))).mono ?_
    rintro e w2 ⟨rfl, rfl⟩
    go_wp2_with fail
    go_ret
    exact FewP.no rfl ((Below.refl _ _).alloc (Nat.le_refl _) _)
  have d0 : decide (100 < (vat.length : Int)) = false := decide_eq_false g0
  have d1 : decide (20 < (sps.length : Int)) = false := decide_eq_false g1
  have d2 : decide (70 < (me.length : Int)) = false := decide_eq_false g2
  have d3 : decide (70 < (n4 : Int)) = false := decide_eq_false g3
  have d4 : decide (s < -1099511627776) = false := decide_eq_false g4
  have d5 : decide (1099511627776 < s) = false := decide_eq_false g5
  have d6 : decide (1099511627776 < c) = false := decide_eq_false g6
  have HOK := Lib.hid (show (∀ k, k < sps.length → -1099511627776 ≤ (sps.getD k (0, 0)).2 ∧ (sps.getD k (0, 0)).2 ≤ 1099511627776) → FewOk ⟨maps, s, c, vat, sps, me⟩ from fun hall =>
    ⟨⟨by show -1099511627776 ≤ s; omega, by show s ≤ 1099511627776; omega, by show c ≤ 1099511627776; omega, by show vat.length ≤ 100; omega, by show sps.length ≤ 20; omega, HV.out, fun x hx => by
      obtain ⟨k, hk, rfl⟩ := List.getElem_of_mem hx
      have := hall k hk
      simpa [List.getD, hk] using this⟩, HFM.out rfl, by show me.length ≤ 70; omega⟩)
  have hsl : (sps.length : Int) ≤ 20 := by omega
  clear g0 g1 g2 g3 g4 g5 g6 HFM HV
  go_enter Tryz.func20, Tryz.ntmps20
  go_wp2_with fail
  refine (CF.out _ (HM.out.below ((Below.refl _ _).alloc (Nat.le_refl _) _))).mono ?_
  rintro e w2 ⟨rfl, rfl⟩
  go_wp2_with fail
  clear d0 d1 d2 d3 d4 d5 d6
  go_loop [3] (fun iv => ∃ q : Nat, q ≤ sps.length ∧ iv = .int .i64 q ∧ Hid (∀ k, k < q → -1099511627776 ≤ (sps.getD k (0, 0)).2 ∧ (sps.getD k (0, 0)).2 ≤ 1099511627776)) (fun iv => sps.length - (intOf iv).toNat)
  case atStart => exact ⟨0, by omega, rfl, Lib.hid (fun k hk => by omega)⟩
  case round =>
    obtain ⟨q, hq, rfl, HN⟩ := hrel
    by_cases hlt : q < sps.length
    · obtain ⟨A', c', hv', _, _, hcells⟩ := HS.out
      obtain ⟨gs, os, rfl, hbs, hcs⟩ := hcells (by omega)
      obtain ⟨rfl, _, rfl⟩ : A2 = some ⟨gs, os, none⟩ ∧ sps.length = sps.length ∧ c2 = c' := by simpa using hv'
      clear hv'
      have q1 := hcs q hlt 1 _ rfl
      have H2 := Lib.hid (show (-1099511627776 ≤ (sps.getD q (0, 0)).2 ∧ (sps.getD q (0, 0)).2 ≤ 1099511627776) → ∀ k, k < q + 1 → -1099511627776 ≤ (sps.getD k (0, 0)).2 ∧ (sps.getD k (0, 0)).2 ≤ 1099511627776 from fun h k hk => by
        by_cases hkq : k = q
        · subst hkq; exact h
        · exact HN.out k (by omega))
      clear hcs
      generalize sps.getD q (0, 0) = x at *
      obtain ⟨x1, x2⟩ := x
      simp only [] at *
      have hq0 : (0 : Int) ≤ (q : Int) := by omega
      have hq1 : (q : Int) < (sps.length : Int) := by omega
      by_cases e0 : x2 < -1099511627776
      · have f0 : decide (x2 < -1099511627776) = true := decide_eq_true e0
        go_wp2_with fail
        go_ret
        exact FewP.no rfl ((Below.refl _ _).alloc (Nat.le_refl _) _)
      have f0 : decide (x2 < -1099511627776) = false := decide_eq_false e0
      by_cases e1 : 1099511627776 < x2
      · have f1 : decide (1099511627776 < x2) = true := decide_eq_true e1
        go_wp2_with fail
        go_ret
        exact FewP.no rfl ((Below.refl _ _).alloc (Nat.le_refl _) _)
      have f1 : decide (1099511627776 < x2) = false := decide_eq_false e1
      have HR := Lib.hid (H2.out ⟨by omega, by omega⟩)
      clear H2 e0 e1
      go_wp2_with fail
      go_round
      case rel => exact ⟨q + 1, by omega, by go_num, HR⟩
      case measure => simp [intOf]; omega
    · obtain rfl : q = sps.length := by omega
      have HR := Lib.hid (HOK.out HN.out)
      go_wp2_with fail
      go_ret
      exact FewP.yes rfl HR.out ((Below.refl _ _).alloc (Nat.le_refl _) _)
end Go.Proofs.YtlcdhlfkffkifaaGreatDoor

/-
  Two boxes of the call's own, followed through the worlds.
-/
namespace Go.Proofs.YtlcdhlfkffkifaaGreatDoor
open Go.RowKit
theorem Frame.MapIn.below {W W' : World} {v : Value} {m : Pm.Mp} {v0 v1 v2 v3 v4 : Value} {n4 : Nat} {T : Nat → Value} (h : Frame.MapIn W v m v0 v1 v2 v3 v4 n4 T) (hb : Below W.heap.size W W') : Frame.MapIn W' v m v0 v1 v2 v3 v4 n4 T :=
  ⟨h.val, h.maps.below hb, h.vat.below hb, h.spares.below hb, h.mdat.below hb, h.mirror, h.s, h.c, h.vats, h.sps⟩
structure TwoB (w W : World) (cs ds : Array Value) : Prop where
  c : ∀ (q : Nat) u, cs[q]? = some u → W.cell? ⟨w.heap.size, q, none⟩ = some u
  d : ∀ (q : Nat) u, ds[q]? = some u → W.cell? ⟨w.heap.size + 1, q, none⟩ = some u
  old : Below w.heap.size w W
  size : w.heap.size + 1 + 1 ≤ W.heap.size
theorem TwoB.of {w w3 : World} {cs ds : Array Value} {T U : TypeId} (hb : Below ((w.alloc (.cells cs T)).alloc (.cells ds U)).heap.size ((w.alloc (.cells cs T)).alloc (.cells ds U)) w3) : TwoB w w3 cs ds :=
  have h := two_box hb
  ⟨h.1, h.2.1, h.2.2.1, h.2.2.2⟩
theorem TwoB.new (w : World) (cs ds : Array Value) (T U : TypeId) : TwoB w ((w.alloc (.cells cs T)).alloc (.cells ds U)) cs ds := TwoB.of (Below.refl _ _)
theorem TwoB.below {w W W' : World} {cs ds : Array Value} (h : TwoB w W cs ds) (hb : Below W.heap.size W W') : TwoB w W' cs ds := by
  have hs := h.size
  exact ⟨fun q u hu => (hb.cell (p := ⟨w.heap.size, q, none⟩) (by simp; omega)).trans (h.c q u hu), fun q u hu => (hb.cell (p := ⟨w.heap.size + 1, q, none⟩) (by simp; omega)).trans (h.d q u hu), h.old.trans (hb.mono h.old.size), Nat.le_trans hs hb.size⟩
/-- What lies behind the two boxes may be written. -/
theorem TwoB.later {w W W' : World} {cs ds : Array Value} (h : TwoB w W cs ds) (hb : Below (w.heap.size + 1 + 1) W W') : TwoB w W' cs ds := by
  have hs := h.size
  exact ⟨fun q u hu => (hb.cell (p := ⟨w.heap.size, q, none⟩) (by simp; omega)).trans (h.c q u hu), fun q u hu => (hb.cell (p := ⟨w.heap.size + 1, q, none⟩) (by simp)).trans (h.d q u hu), h.old.trans (hb.mono (by omega)), Nat.le_trans hs hb.size⟩
end Go.Proofs.YtlcdhlfkffkifaaGreatDoor
