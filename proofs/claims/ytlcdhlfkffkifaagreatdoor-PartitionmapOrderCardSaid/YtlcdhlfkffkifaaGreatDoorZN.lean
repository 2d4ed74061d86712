/-
  The walk through awake of the statements of layer 37: it returns true.
-/
import Derived.Test.YtlcdhlfkffkifaaGreatDoorZH
import Derived.Test.YtlcdhlfkffkifaaGreatDoorZI
import Derived.Test.YtlcdhlfkffkifaaGreatDoorZJ
import Derived.Test.YtlcdhlfkffkifaaGreatDoorZK
import Derived.Test.YtlcdhlfkffkifaaGreatDoorZL
namespace Go.Proofs.YtlcdhlfkffkifaaGreatDoor
open Go.RowKit Go.Maps

/-- The cells of a variable. -/
structure BoxM (W : World) (g : Nat) (cs : Array Value) : Prop where
  rd : ∀ (j : Nat) v, cs[j]? = some v → W.cell? ⟨g, j, none⟩ = some v
  lt : g < W.heap.size
theorem BoxM.below {W W' : World} {g : Nat} {cs : Array Value} (h : BoxM W g cs) (hb : Below W.heap.size W W') : BoxM W' g cs :=
  ⟨fun j v hv => (hb.cell (p := ⟨g, j, none⟩) h.lt).trans (h.rd j v hv), Nat.lt_of_lt_of_le h.lt hb.size⟩
theorem BoxM.new (W : World) (cs : Array Value) (T : TypeId) : BoxM (W.alloc (.cells cs T)) W.heap.size cs :=
  ⟨fun j v hv => by rw [World.cell?_alloc_at _ _ _ _ (by simp)]; simpa using hv, by simp⟩
/-- A mapping in a variable, with what it reads. -/
structure AwM (W : World) (g : Nat) (v0 v1 v2 : Value) (m : Pm.Mp) (T : Nat → Value) : Prop where
  maps : Pm.MapsAt W v0 m.maps T
  mp : Pm.MpAt W m v1 v2
  box : BoxM W g #[v0, .int .i64 m.start, .int .i64 m.count, v1, v2, .slice none 0 0, .slice none 0 0]
theorem AwM.below {W W' : World} {g : Nat} {v0 v1 v2 : Value} {m : Pm.Mp} {T : Nat → Value} (h : AwM W g v0 v1 v2 m T) (hb : Below W.heap.size W W') : AwM W' g v0 v1 v2 m T :=
  ⟨h.maps.below hb, h.mp.below hb, h.box.below hb⟩
/-- Maps, at a kind of volume. -/
theorem maps_lit (kind : Int) (tv : Value) (ts : List Int) (l : List Pm.M) (n : Nat) (he : Pm.mapsR kind ts 0 0 0 = l) (hn : l.length = n) (w : World) (hr : Kit.RowS w tv (Kit.izs ts)) (hl : ts.length ≤ 64) (hk : (Lit.int .i64 kind).wf = true) :
    Calls Tryz.prog 16 #[.int .i64 kind, tv, .int .i64 0, .int .i64 0, .int .i64 0] w fun e w' => ∃ A c T, e = .returned (.slice A n c) ∧ Pm.MapsAt w' (.slice A n c) l T ∧ Below w.heap.size w w' := by
  refine (maps_any kind tv ts 0 0 0 w hr hl hk ⟨by simp, by simp, by simp, by simp, by simp⟩).mono ?_
  rintro e w' ⟨v, L, rfl, hL, hO, hb⟩
  have ha := hO.at'
  rw [hL, he] at ha
  obtain ⟨A, c, hv, _⟩ := ha.row
  subst hv
  subst hn
  exact ⟨A, c, _, rfl, ha, hb⟩
/-- Translate, at a mapping in a variable without metadata. -/
theorem tr_lit (m : Pm.Mp) (v0 v1 v2 : Value) (T : Nat → Value) (g : Nat) (b p x y : Int) (hm : Pm.MpFew m) (hf : Pm.Few m.maps) (hb0 : -9223372036854775808 ≤ b) (hb1 : b ≤ 9223372036854775807) (hk : ∀ j, j < m.maps.length → (m.maps.getD j Pm.none).kind ≠ 3) (hr : Pm.transR m b p = (x, y)) (w : World) (h : AwM w g v0 v1 v2 m T) :
    Calls Tryz.prog 21 #[.agg #[v0, .int .i64 m.start, .int .i64 m.count, v1, v2, .slice none 0 0, .slice none 0 0], .agg #[.int .i64 b, .int .i64 p]] w fun e w' => e = .returned (.tuple #[.int .i64 x, .int .i64 y]) ∧ Below w.heap.size w w' := by
  have := translate_any m v0 v1 v2 none none 0 0 0 0 T b p w hm h.mp h.maps hf hb0 hb1 (fun W _ h0 h1 h3 => absurd h3 (hk _ (by omega)))
  rw [hr] at this
  exact this

/-- The maps, the mappings of the examples. -/
def awL1 : List Pm.M := [⟨0, 0, [], 0, 0, 0⟩, ⟨1, 0, [], 0, 0, 0⟩]
def awL2 : List Pm.M := [⟨2, 0, [66, 67], 0, 0, 0⟩]
def awM1 : Pm.Mp := ⟨awL1, 257, 100, [7, 4294967295], [], []⟩
def awM2 : Pm.Mp := ⟨awL2, 257, 100, [], [(8, 600)], []⟩
theorem awF1 : Pm.MpFew awM1 := ⟨by decide, by decide, by decide, by decide, by decide, by simp [awM1], by simp [awM1]⟩
theorem awF2 : Pm.MpFew awM2 := ⟨by decide, by decide, by decide, by decide, by decide, by simp [awM2], by simp [awM2]⟩
theorem awW1 : Pm.Few awM1.maps := ⟨by decide, by decide⟩
theorem awW2 : Pm.Few awM2.maps := ⟨by decide, by decide⟩
theorem awK1 : ∀ j, j < awM1.maps.length → (awM1.maps.getD j Pm.none).kind ≠ 3 := by decide
theorem awK2 : ∀ j, j < awM2.maps.length → (awM2.maps.getD j Pm.none).kind ≠ 3 := by decide
theorem awT1 : Pm.transR awM1 5 0 = (262, 0) := by decide +kernel
theorem awT2 : Pm.transR awM1 0 1 = (264, 0) := by decide +kernel
theorem awT3 : Pm.transR awM1 1 1 = (0, 6) := by decide +kernel
theorem awT4 : Pm.transR awM2 11 0 = (603, 0) := by decide +kernel
theorem awT5 : Pm.transR awM2 16 0 = (273, 0) := by decide +kernel
theorem awA : Pm.all awL2 = true := by decide +kernel
theorem awE : (Pm.encR awL2).2 = 0 ∧ (Pm.encR awL2).1.length = 64 := by decide +kernel
theorem awR : Pm.decR (Pm.encR awL2).1 1 = (awL2, 0) := by
  have := (Pm.returns_of awA).1
  rw [show (Pm.encR awL2).1 = awL2.flatMap Pm.bytes by unfold Pm.encR; rw [if_pos awA]]
  exact this
theorem awN : Pm.kindR awL2 = 2 ∧ Pm.kindR [] = -1 := by decide +kernel

theorem awBox1 (w : World) (A : Option Addr) (c : Nat) (T : Nat → Value) (h : Pm.MapsAt w (.slice A 2 c) awL1 T) :
    AwM ((w.alloc (.cells #[.int .i64 7, .int .i64 4294967295] 3)).alloc (.cells #[.slice A 2 c, .int .i64 257, .int .i64 100, .slice (some ⟨w.heap.size, 0, none⟩) 2 2, .slice none 0 0, .slice none 0 0, .slice none 0 0] 41)) (w.heap.size + 1) (.slice A 2 c) (.slice (some ⟨w.heap.size, 0, none⟩) 2 2) (.slice none 0 0) awM1 T := by
  have b1 := (Below.refl w.heap.size w).alloc (Nat.le_refl _) (.cells #[.int .i64 7, .int .i64 4294967295] 3)
  have b2 := fun o => (Below.refl (w.alloc (.cells #[.int .i64 7, .int .i64 4294967295] 3)).heap.size (w.alloc (.cells #[.int .i64 7, .int .i64 4294967295] 3))).alloc (Nat.le_refl _) o
  refine ⟨(h.below b1).below (b2 _), ⟨?_, ?_⟩, ?_⟩
  · exact ((Kit.Cl.new w [7, 4294967295] 3).row (by simp [maxLen])).below (b2 _)
  · exact ⟨none, 0, rfl, Nat.le_refl _, by unfold maxLen; omega, fun h => absurd h (by decide)⟩
  · have := BoxM.new (w.alloc (.cells #[.int .i64 7, .int .i64 4294967295] 3)) #[.slice A 2 c, .int .i64 257, .int .i64 100, .slice (some ⟨w.heap.size, 0, none⟩) 2 2, .slice none 0 0, .slice none 0 0, .slice none 0 0] 41
    rw [show (w.alloc (.cells #[.int .i64 7, .int .i64 4294967295] 3)).heap.size = w.heap.size + 1 by simp] at this
    exact this
theorem awBox2 (w : World) (A : Option Addr) (c : Nat) (T : Nat → Value) (h : Pm.MapsAt w (.slice A 1 c) awL2 T) :
    AwM ((w.alloc (.cells #[.int .i64 8, .int .i64 600] 57)).alloc (.cells #[.slice A 1 c, .int .i64 257, .int .i64 100, .slice none 0 0, .slice (some ⟨w.heap.size, 0, none⟩) 1 1, .slice none 0 0, .slice none 0 0] 41)) (w.heap.size + 1) (.slice A 1 c) (.slice none 0 0) (.slice (some ⟨w.heap.size, 0, none⟩) 1 1) awM2 T := by
  have b1 := (Below.refl w.heap.size w).alloc (Nat.le_refl _) (.cells #[.int .i64 8, .int .i64 600] 57)
  have b2 := fun o => (Below.refl (w.alloc (.cells #[.int .i64 8, .int .i64 600] 57)).heap.size (w.alloc (.cells #[.int .i64 8, .int .i64 600] 57))).alloc (Nat.le_refl _) o
  refine ⟨(h.below b1).below (b2 _), ⟨?_, ?_⟩, ?_⟩
  · exact (Kit.RowS.nil _).1
  · refine Kit.RowN.below ⟨some ⟨w.heap.size, 0, none⟩, 1, rfl, Nat.le_refl _, by unfold maxLen; omega, fun _ => ⟨w.heap.size, 0, rfl, by simp, fun j hj k u hu => ?_⟩⟩ (b2 _)
    obtain rfl : j = 0 := by have : j < 1 := hj; omega
    have hu' : (#[.int .i64 8, .int .i64 600] : Array Value)[k]? = some u := by simpa [Pm.spC, awM2] using hu
    have := (BoxM.new w #[.int .i64 8, .int .i64 600] 57).rd k u hu'
    simpa using this
  · have := BoxM.new (w.alloc (.cells #[.int .i64 8, .int .i64 600] 57)) #[.slice A 1 c, .int .i64 257, .int .i64 100, .slice none 0 0, .slice (some ⟨w.heap.size, 0, none⟩) 1 1, .slice none 0 0, .slice none 0 0] 41
    rw [show (w.alloc (.cells #[.int .i64 8, .int .i64 600] 57)).heap.size = w.heap.size + 1 by simp] at this
    exact this

set_option maxHeartbeats 6400000 in
set_option maxRecDepth 100000 in
/-- awake. -/
theorem awake_any (w : World) (m : Int) (hM : w.cell? ⟨0, 0, none⟩ = some (.int .i64 m)) :
    Calls Tryz.prog 9 #[] w fun e w' => e = .returned (.bool true) ∧ Below w.heap.size w w' := by
  have HM := Lib.hid hM
  have C1 := Lib.hid (fun W => maps_lit 1 (.slice none 0 0) [] awL1 2 rfl rfl W (Kit.RowS.nil W) (by simp) (by decide))
  have C2 := Lib.hid (fun W tv h => maps_lit 2 tv [66, 67] awL2 1 rfl rfl W h (by simp) (by decide))
  have T1 := Lib.hid (fun v0 v1 v2 T g W h => tr_lit awM1 v0 v1 v2 T g 5 0 262 0 awF1 awW1 (by decide) (by decide) awK1 awT1 W h)
  have T2 := Lib.hid (fun v0 v1 v2 T g W h => tr_lit awM1 v0 v1 v2 T g 0 1 264 0 awF1 awW1 (by decide) (by decide) awK1 awT2 W h)
  have T3 := Lib.hid (fun v0 v1 v2 T g W h => tr_lit awM1 v0 v1 v2 T g 1 1 0 6 awF1 awW1 (by decide) (by decide) awK1 awT3 W h)
  have T4 := Lib.hid (fun v0 v1 v2 T g W h => tr_lit awM2 v0 v1 v2 T g 11 0 603 0 awF2 awW2 (by decide) (by decide) awK2 awT4 W h)
  have T5 := Lib.hid (fun v0 v1 v2 T g W h => tr_lit awM2 v0 v1 v2 T g 16 0 273 0 awF2 awW2 (by decide) (by decide) awK2 awT5 W h)
  have CE := Lib.hid (fun v T W h => encode_any v awL2 T W h awW2)
  have CK := Lib.hid (fun v T W h => kind_any v awL2 T W h awW2)
  have CN := Lib.hid (fun W => kind_any (.slice none 0 0) [] (fun _ => .slice none 0 0) W ⟨⟨none, 0, rfl, Nat.le_refl _, by unfold maxLen; omega, fun h => absurd h (by decide)⟩, fun j hj => absurd hj (by simp), fun j hj => absurd hj (by simp)⟩ ⟨by decide, fun j hj => absurd hj (by simp)⟩)
  rw [awE.1] at CE
  rw [awN.1] at CK
  rw [awN.2] at CN
  have hS := awE.2
  have hR := awR
  generalize (Pm.encR awL2).1 = S at *
  clear hM
  go_enter Tryz.func9, Tryz.ntmps9
  go_wp2_with fail
  refine (C1.out _).mono ?_
  rintro e w1 ⟨A, c, T, rfl, hm1, hb1⟩
  have H1 := Lib.hid (awBox1 w1 A c T hm1)
  have HB1 := Lib.hid hb1
  clear hm1 hb1 C1
  go_wp2_with fail
  have HBa := Lib.hid ((HB1.out.trans ((Below.refl _ w1).alloc HB1.out.size (.cells #[.int .i64 7, .int .i64 4294967295] 3))).trans ((Below.refl _ (w1.alloc (.cells #[.int .i64 7, .int .i64 4294967295] 3))).alloc (by have := HB1.out.size; simp; omega) (.cells #[.slice A 2 c, .int .i64 257, .int .i64 100, .slice (some ⟨w1.heap.size, 0, none⟩) 2 2, .slice none 0 0, .slice none 0 0, .slice none 0 0] 41)))
  have hsa : w.heap.size ≤ ((w1.alloc (.cells #[.int .i64 7, .int .i64 4294967295] 3)).alloc (.cells #[.slice A 2 c, .int .i64 257, .int .i64 100, .slice (some ⟨w1.heap.size, 0, none⟩) 2 2, .slice none 0 0, .slice none 0 0, .slice none 0 0] 41)).heap.size := HBa.out.size
  have HSa := Lib.hid hsa
  clear hsa
  refine (T1.out _ _ _ _ _ _ H1.out).mono ?_
  rintro e w2 ⟨rfl, hb⟩
  have ha := H1.out.below hb
  have HBw2 := Lib.hid (HBa.out.trans (hb.mono HSa.out))
  clear hb HBa HSa HB1
  have x0 := ha.box.rd 0 _ rfl
  have x1 := ha.box.rd 1 _ rfl
  have x2 := ha.box.rd 2 _ rfl
  have x3 := ha.box.rd 3 _ rfl
  have x4 := ha.box.rd 4 _ rfl
  have x5 := ha.box.rd 5 _ rfl
  have x6 := ha.box.rd 6 _ rfl
  have H2 := Lib.hid ha
  clear ha
  clear H1 T1
  go_wp2_with fail
  clear x0 x1 x2 x3 x4 x5 x6
  refine (T2.out _ _ _ _ _ _ H2.out).mono ?_
  rintro e w3 ⟨rfl, hb⟩
  have ha := H2.out.below hb
  have HBw3 := Lib.hid (HBw2.out.trans (hb.mono HBw2.out.size))
  clear hb HBw2
  have x0 := ha.box.rd 0 _ rfl
  have x1 := ha.box.rd 1 _ rfl
  have x2 := ha.box.rd 2 _ rfl
  have x3 := ha.box.rd 3 _ rfl
  have x4 := ha.box.rd 4 _ rfl
  have x5 := ha.box.rd 5 _ rfl
  have x6 := ha.box.rd 6 _ rfl
  have H3 := Lib.hid ha
  clear ha
  clear H2 T2
  go_wp2_with fail
  clear x0 x1 x2 x3 x4 x5 x6
  refine (T3.out _ _ _ _ _ _ H3.out).mono ?_
  rintro e w4 ⟨rfl, hb⟩
  have ha := H3.out.below hb
  have HBw4 := Lib.hid (HBw3.out.trans (hb.mono HBw3.out.size))
  clear hb HBw3
  clear ha
  clear H3 T3
  have HR := Lib.hid (Kit.RowS.new w4 (Kit.izs [66, 67]) 3 (by simp [Kit.izs, maxLen]))
  have HBn := Lib.hid (HBw4.out.trans ((Below.refl _ w4).alloc HBw4.out.size (.cells #[.int .i64 66, .int .i64 67] 3)))
  have HSn := Lib.hid (show w.heap.size ≤ (w4.alloc (.cells #[.int .i64 66, .int .i64 67] 3)).heap.size from HBn.out.size)
  clear HBw4
  go_wp2_with fail
  refine (C2.out _ _ HR.out).mono ?_
  rintro e w5 ⟨A', c', T', rfl, hm5, hb5⟩
  have H4 := Lib.hid (awBox2 w5 A' c' T' hm5)
  have HB5 := Lib.hid (HBn.out.trans (hb5.mono HSn.out))
  clear hm5 hb5 C2 HR HBn HSn
  have HBa := Lib.hid ((HB5.out.trans ((Below.refl _ w5).alloc HB5.out.size (.cells #[.int .i64 8, .int .i64 600] 57))).trans ((Below.refl _ (w5.alloc (.cells #[.int .i64 8, .int .i64 600] 57))).alloc (by have := HB5.out.size; simp; omega) (.cells #[.slice A' 1 c', .int .i64 257, .int .i64 100, .slice none 0 0, .slice (some ⟨w5.heap.size, 0, none⟩) 1 1, .slice none 0 0, .slice none 0 0] 41)))
  have HSa := Lib.hid (show w.heap.size ≤ ((w5.alloc (.cells #[.int .i64 8, .int .i64 600] 57)).alloc (.cells #[.slice A' 1 c', .int .i64 257, .int .i64 100, .slice none 0 0, .slice (some ⟨w5.heap.size, 0, none⟩) 1 1, .slice none 0 0, .slice none 0 0] 41)).heap.size from HBa.out.size)
  clear HB5
  go_wp2_with fail
  refine (T4.out _ _ _ _ _ _ H4.out).mono ?_
  rintro e w6 ⟨rfl, hb⟩
  have ha := H4.out.below hb
  have HBw6 := Lib.hid (HBa.out.trans (hb.mono HSa.out))
  clear hb HBa HSa
  have x0 := ha.box.rd 0 _ rfl
  have x1 := ha.box.rd 1 _ rfl
  have x2 := ha.box.rd 2 _ rfl
  have x3 := ha.box.rd 3 _ rfl
  have x4 := ha.box.rd 4 _ rfl
  have x5 := ha.box.rd 5 _ rfl
  have x6 := ha.box.rd 6 _ rfl
  have H5 := Lib.hid ha
  clear ha
  clear H4 T4
  go_wp2_with fail
  clear x0 x1 x2 x3 x4 x5 x6
  refine (T5.out _ _ _ _ _ _ H5.out).mono ?_
  rintro e w7 ⟨rfl, hb⟩
  have ha := H5.out.below hb
  have HBw7 := Lib.hid (HBw6.out.trans (hb.mono HBw6.out.size))
  clear hb HBw6
  have x0 := ha.box.rd 0 _ rfl
  have x1 := ha.box.rd 1 _ rfl
  have x2 := ha.box.rd 2 _ rfl
  have x3 := ha.box.rd 3 _ rfl
  have x4 := ha.box.rd 4 _ rfl
  have x5 := ha.box.rd 5 _ rfl
  have x6 := ha.box.rd 6 _ rfl
  have H6 := Lib.hid ha
  clear ha
  clear H5 T5
  go_wp2_with fail
  clear x0 x1 x2 x3 x4 x5 x6
  refine (CE.out _ _ _ H6.out.maps).mono ?_
  rintro e w8 ⟨rfl, hb⟩
  have ha := H6.out.below hb
  have HBw8 := Lib.hid (HBw7.out.trans (hb.mono HBw7.out.size))
  have H7 := Lib.hid ha
  clear hb HBw7 H6 ha CE
  obtain ⟨sb, hsb⟩ : ∃ sb : ByteArray, sb = ⟨S.toArray⟩ := ⟨_, rfl⟩
  rw [← hsb]
  have hsz : sb.size = 64 := by rw [hsb]; simpa [ByteArray.size] using hS
  have hdat : sb.data.toList = S := by rw [hsb]
  have hM8 := (HBw8.out.cell (p := ⟨0, 0, none⟩) (World.block_lt_of_cell? _ _ HM.out)).trans HM.out
  have CD := Lib.hid (decode_all sb 1 w8 m hM8 (by omega))
  rw [hdat, hR] at CD
  have e64 : ((sb.size : Int) == 64) = true := by rw [beq_iff_eq]; omega
  clear hsz hdat hM8 hsb hS hR
  go_wp2_with fail
  refine CD.out.mono ?_
  rintro e w9 ⟨vd, Ld, rfl, hLd, hOd, hb⟩
  have hma := hOd.at'
  rw [hLd] at hma
  have HMA := Lib.hid hma
  have ha := H7.out.below hb
  have HBw9 := Lib.hid (HBw8.out.trans (hb.mono HBw8.out.size))
  have x0 := ha.box.rd 0 _ rfl
  have x1 := ha.box.rd 1 _ rfl
  have x2 := ha.box.rd 2 _ rfl
  have x3 := ha.box.rd 3 _ rfl
  have x4 := ha.box.rd 4 _ rfl
  have x5 := ha.box.rd 5 _ rfl
  have x6 := ha.box.rd 6 _ rfl
  have H8 := Lib.hid ha
  clear hma hOd hLd hb HBw8 H7 ha CD
  go_wp2_with fail
  clear x0 x1 x2 x3 x4 x5 x6
  refine (sameMaps_any _ _ awL2 _ _ _ HMA.out H8.out.maps).mono ?_
  rintro e w10 ⟨rfl, hb⟩
  have ha := H8.out.below hb
  have HBw10 := Lib.hid (HBw9.out.trans (hb.mono HBw9.out.size))
  have x0 := ha.box.rd 0 _ rfl
  have x1 := ha.box.rd 1 _ rfl
  have x2 := ha.box.rd 2 _ rfl
  have x3 := ha.box.rd 3 _ rfl
  have x4 := ha.box.rd 4 _ rfl
  have x5 := ha.box.rd 5 _ rfl
  have x6 := ha.box.rd 6 _ rfl
  have H9 := Lib.hid ha
  clear hb HBw9 H8 ha HMA
  go_wp2_with fail
  clear x0 x1 x2 x3 x4 x5 x6
  refine (CK.out _ _ _ H9.out.maps).mono ?_
  rintro e w11 ⟨rfl, hb⟩
  have HBw11 := Lib.hid (HBw10.out.trans (hb.mono HBw10.out.size))
  clear hb HBw10 H9 CK
  go_wp2_with fail
  refine (CN.out _).mono ?_
  rintro e w12 ⟨rfl, hb⟩
  have HBw12 := Lib.hid (HBw11.out.trans (hb.mono HBw11.out.size))
  clear hb HBw11 CN
  go_wp2_with fail
  go_ret
  exact ⟨rfl, HBw12.out⟩
end Go.Proofs.YtlcdhlfkffkifaaGreatDoor
