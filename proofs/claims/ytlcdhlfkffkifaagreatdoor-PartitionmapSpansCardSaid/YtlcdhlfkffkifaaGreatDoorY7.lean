/-
  The walk through the statement PartitionmapSpans: it returns true.
-/
import Derived.Test.YtlcdhlfkffkifaaGreatDoorZN
import Derived.Test.YtlcdhlfkffkifaaGreatDoorZY
import Derived.Test.YtlcdhlfkffkifaaGreatDoorZM
import Derived.Carry
import Derived.Test.YtlcdhlfkffkifaaGreatDoorZV
namespace Go.Proofs.YtlcdhlfkffkifaaGreatDoor
open Go.RowKit

set_option maxHeartbeats 12800000 in
set_option maxRecDepth 100000 in
/-- PartitionmapSpans. -/
theorem lawSpans_any (v : Value) (m : Pm.Mp) (v0 v1 v2 v3 v4 : Value) (n4 : Nat) (T : Nat → Value) (x : Pm.X) (w : World) (h : Frame.MapIn w v m v0 v1 v2 v3 v4 n4 T)
    (_ : -9223372036854775808 ≤ x.kind ∧ x.kind ≤ 9223372036854775807) (_ : -9223372036854775808 ≤ x.length ∧ x.length ≤ 9223372036854775807) (_ : -9223372036854775808 ≤ x.block ∧ x.block ≤ 9223372036854775807) (_ : -9223372036854775808 ≤ x.part ∧ x.part ≤ 9223372036854775807)
    (hM : ∃ m : Int, w.cell? ⟨0, 0, none⟩ = some (.int .i64 m)) :
    Calls Tryz.prog 8 #[v, Pm.exV x] w fun e w' => e = .returned (.bool true) ∧ Below w.heap.size w w' := by
  obtain ⟨m0, hM⟩ := hM
  have hval := h.val
  subst hval
  have HI := Lib.hid h
  have hb0 : Below w.heap.size w ((w.alloc (.cells #[v0, .int .i64 m.start, .int .i64 m.count, v1, v2, v3, v4] 41)).alloc (.cells #[.int .i64 x.kind, .int .i64 x.length, .int .i64 x.block, .int .i64 x.part] 49)) := ((Below.refl _ w).alloc (Nat.le_refl _) _).alloc (by simp) _
  have CA := Lib.hid (awake_any _ m0 ((hb0.cell (p := ⟨0, 0, none⟩) (World.block_lt_of_cell? _ _ hM)).trans hM))
  have CF := Lib.hid (fun W hW => few_any (Pm.mpV m v0 v1 v2 v3 v4) m v0 v1 v2 v3 v4 n4 T W hW)
  have CS := Lib.hid (fun W hW ho => spans_any (Pm.mpV m v0 v1 v2 v3 v4) m v0 v1 v2 v3 v4 n4 T x W hW ho)
  have CR := Lib.hid (fun W hW ho => rSpans_any (Pm.mpV m v0 v1 v2 v3 v4) m v0 v1 v2 v3 v4 n4 T x W hW ho)
  obtain ⟨A4, c4, hv4, _⟩ := h.mirror
  obtain ⟨A0, c0, hv0, _⟩ := h.maps.row
  obtain ⟨A1, c1, hv1, _⟩ := h.vat.1
  obtain ⟨A2, c2, hv2, _⟩ := h.spares
  obtain ⟨A3, c3, hv3, _⟩ := h.mdat.row
  subst hv0 hv1 hv2 hv3 hv4
  rw [Kit.izs_length] at *
  have HB0 := Lib.hid hb0
  generalize Pm.spansR m x = R at *
  obtain ⟨L, er⟩ := R
  clear hM h hb0
  unfold Pm.exV at *
  unfold Pm.mpV at *
  obtain ⟨maps, s, n, vat, sps, me⟩ := m
  obtain ⟨k, len, bb, pp⟩ := x
  simp only [] at *
  go_enter Tryz.func8, Tryz.ntmps8
  go_wp2_with fail
  refine CA.out.mono ?_
  rintro e w1 ⟨rfl, hb1⟩
  have h1 := TwoB.of hb1
  have HI1 := Lib.hid ((HI.out.below HB0.out).below hb1)
  have HT1 := Lib.hid h1
  have x0 := h1.c 0 _ rfl
  have x1 := h1.c 1 _ rfl
  have x2 := h1.c 2 _ rfl
  have x3 := h1.c 3 _ rfl
  have x4 := h1.c 4 _ rfl
  have x5 := h1.c 5 _ rfl
  have x6 := h1.c 6 _ rfl
  have a0 := h1.d 0 _ rfl
  have a1 := h1.d 1 _ rfl
  have a2 := h1.d 2 _ rfl
  have a3 := h1.d 3 _ rfl
  clear h1 hb1
  go_wp2_with fail
  refine (CF.out _ HI1.out).mono ?_
  rintro e w2 ⟨bb2, rfl, hf, hb2⟩
  have h2 := HT1.out.below hb2
  have HI2 := Lib.hid (HI1.out.below hb2)
  have HT2 := Lib.hid h2
  clear x0 x1 x2 x3 x4 x5 x6 a0 a1 a2 a3
  have x0 := h2.c 0 _ rfl
  have x1 := h2.c 1 _ rfl
  have x2 := h2.c 2 _ rfl
  have x3 := h2.c 3 _ rfl
  have x4 := h2.c 4 _ rfl
  have x5 := h2.c 5 _ rfl
  have x6 := h2.c 6 _ rfl
  have a0 := h2.d 0 _ rfl
  have a1 := h2.d 1 _ rfl
  have a2 := h2.d 2 _ rfl
  have a3 := h2.d 3 _ rfl
  clear h2 hb2 HI1 HT1 HI HB0
  cases bb2 with
  | false =>
    clear hf
    go_wp2_with fail
    go_ret
    exact ⟨rfl, HT2.out.old⟩
  | true =>
  have HO := Lib.hid (hf rfl)
  clear hf
  by_cases hg : 614400 < len ∧ len ≤ 8388608
  · have d0 : decide (614400 < len) = true := decide_eq_true hg.1
    have d1 : decide (len ≤ 8388608) = true := decide_eq_true hg.2
    clear hg
    go_wp2_with fail
    go_ret
    exact ⟨rfl, HT2.out.old⟩
  have hgo : (decide (614400 < len) = false) ∨ (decide (614400 < len) = true ∧ decide (len ≤ 8388608) = false) := by
    by_cases h0 : 614400 < len
    · exact Or.inr ⟨decide_eq_true h0, decide_eq_false (fun h => hg ⟨h0, h⟩)⟩
    · exact Or.inl (decide_eq_false h0)
  clear hg
  rcases hgo with d0 | ⟨d0, d1⟩
  all_goals
    go_wp2_with fail
    refine (CS.out _ HI2.out HO.out).mono ?_
    rintro e w3 ⟨u1, rfl, ho1, hb3⟩
    have h3 := HT2.out.below hb3
    have HI3 := Lib.hid (HI2.out.below hb3)
    have HT3 := Lib.hid h3
    have hr1 := ho1.row
    have HR1 := Lib.hid hr1
    obtain ⟨AU, cU, rfl, _, _, _⟩ := hr1
    clear x0 x1 x2 x3 x4 x5 x6 a0 a1 a2 a3
    have x0 := h3.c 0 _ rfl
    have x1 := h3.c 1 _ rfl
    have x2 := h3.c 2 _ rfl
    have x3 := h3.c 3 _ rfl
    have x4 := h3.c 4 _ rfl
    have x5 := h3.c 5 _ rfl
    have x6 := h3.c 6 _ rfl
    have a0 := h3.d 0 _ rfl
    have a1 := h3.d 1 _ rfl
    have a2 := h3.d 2 _ rfl
    have a3 := h3.d 3 _ rfl
    clear h3 hb3 ho1 HI2 HT2
    go_wp2_with fail
    refine (CR.out _ HI3.out HO.out).mono ?_
    rintro e w4 ⟨u2, rfl, ho2, hb4⟩
    have HT4 := Lib.hid (HT3.out.below hb4)
    have HR2 := Lib.hid (HR1.out.below hb4)
    have hr2 := ho2.row
    have HR3 := Lib.hid hr2
    obtain ⟨AV, cV, rfl, _, _, _⟩ := hr2
    clear x0 x1 x2 x3 x4 x5 x6 a0 a1 a2 a3
    clear hb4 ho2 HR1 HT3 HI3
    go_wp2_with fail
    refine (equalS_same _ _ L _ HR2.out HR3.out).mono ?_
    rintro e w5 ⟨rfl, hb5⟩
    go_wp2_with fail
    go_ret
    exact ⟨by simp, (HT4.out.below hb5).old⟩
end Go.Proofs.YtlcdhlfkffkifaaGreatDoor

/-
  YtlcdhlfkffkifaaGreatDoor: the statement PartitionmapSpans: for every input the law returns true. No condition beside the row's own.
-/
namespace Go.Proofs.YtlcdhlfkffkifaaGreatDoor.partitionmapSpans
open Go.ChangeShapes Go.WideShapes Go.ChangeAt Go.RowKit
open Go.ChangeMaps (open_string shut_string)
set_option linter.unusedVariables false

set_option maxRecDepth 100000 in
theorem contract (H : Type) (enc : TypeId × Value → H) (W : World) (base : Nat) (args : Array Value) (ds gs : List (DataW H)) (before : List MemPlace)
    (hval : ∀ (j : Nat) t v, Tryz.f8.params[j]? = some t → args[j]? = some v → Value.okWide Tryz.prog W .any base t v)
    (hW : DataW.Whole enc Tryz.prog Tryz.f8.params.toList Rows.partitionmapSpansSpec.vars false W args.toList ds gs before) (hL : laidMetH Tryz.prog Rows.partitionmapSpansRow.laid W) (hSh : W.ShapedOpen Tryz.prog) :
    Calls Tryz.prog 8 args W fun e W' => ∃ v, e = .returned v ∧ Rows.partitionmapSpansSpec.post enc Tryz.prog Tryz.f8 false true false false W args v W' := by
  have hW' := hW
  obtain ⟨p, q, hA0, hV, rfl, hfz, hnd⟩ := hW
  have hA : DataW.TrodAll enc Tryz.prog W 0 (fun _ => true) true Tryz.f8.params.toList args.toList ds p := hA0
  rw [Tryz.params8] at hA hval
  obtain ⟨v0, vs0, d0, ds0, p0, q0, hargs, rfl, rfl, h0, r0⟩ := trodAll_cons hA
  obtain ⟨v1, vs1, d1, ds1, p1, q1, rfl, rfl, rfl, h1, r1⟩ := trodAll_cons r0
  obtain ⟨rfl, rfl, rfl⟩ := trodAll_nil r1
  obtain rfl : args = #[v0, v1] := by cases args; simp_all
  obtain ⟨rfl, rfl⟩ := trodVars_none hV
  have h0k := h0
  obtain ⟨m0, u0_0, u1_0, u2_0, u3_0, u4_0, n4_0, T0, hm0⟩ := Frame.open_mapping W v0 d0 p0 (hval 0 41 v0 rfl rfl) h0
  have hlt0 : ∀ x ∈ p0, x.block < W.heap.size := fun x hx => by simpa using hW'.lt x (by simp [hx])
  have h1k := h1
  obtain ⟨x1, rfl, hk1, hl1, hb1, hp1⟩ := Frame.open_extent W v1 d1 p1 (hval 1 49 v1 rfl rfl) h1
  have hlt1 : ∀ x ∈ p1, x.block < W.heap.size := fun x hx => by simpa using hW'.lt x (by simp [hx])
  clear hA0
  refine (lawSpans_any v0 m0 u0_0 u1_0 u2_0 u3_0 u4_0 n4_0 T0 x1 W hm0 hk1 hl1 hb1 hp1 (Frame.maxlen hSh)).mono fun e W' ⟨he, bel⟩ => ?_
  subst he
  exact ⟨_, rfl, _, _, _, [], _, [], hW', trodAll_mk1 (shut_bool Tryz.underlying4 _), (trodAll_cons_mk (Below.trod Frame.laidOut (by kernel_rfl) (of_decide_eq_true (by kernel_rfl)) h0k bel hlt0) (trodAll_cons_mk (Below.trod Frame.laidOut (by kernel_rfl) (of_decide_eq_true (by kernel_rfl)) h1k bel hlt1) trodAll_mk0)), rfl, bel.frame _, fun h => by cases h⟩

theorem laid_met (os : Os) : laidMet Tryz.prog Rows.partitionmapSpansRow.laid ((Frame.world os).forCall (fun _ _ => 0) ⟨#[], #[.agg #[.slice none 0 0, .int .i64 0, .int .i64 0, .slice none 0 0, .slice none 0 0, .slice none 0 0, .slice none 0 0], .agg #[.int .i64 0, .int .i64 0, .int .i64 0, .int .i64 0]], []⟩).memory :=
  laidMet_of_run' 8 (by kernel_rfl) (by kernel_rfl)
theorem reads (os : Os) {H : Type} (enc : TypeId × Value → H) : ∃ places, DataW.whole enc Tryz.prog ((Frame.world os).forCall (fun _ _ => 0) ⟨#[], #[.agg #[.slice none 0 0, .int .i64 0, .int .i64 0, .slice none 0 0, .slice none 0 0, .slice none 0 0, .slice none 0 0], .agg #[.int .i64 0, .int .i64 0, .int .i64 0, .int .i64 0]], []⟩).memory Tryz.f8.params.toList Rows.partitionmapSpansSpec.vars false (#[.agg #[.slice none 0 0, .int .i64 0, .int .i64 0, .slice none 0 0, .slice none 0 0, .slice none 0 0, .slice none 0 0], .agg #[.int .i64 0, .int .i64 0, .int .i64 0, .int .i64 0]] : Array Value).toList 8 = some ([.agg [.nil, .agg [.lit (.int .i64 0), .lit (.int .i64 0)], .nil, .nil, .nil, .nil], .agg [.lit (.int .i64 0), .lit (.int .i64 0), .agg [.lit (.int .i64 0), .lit (.int .i64 0)]]], [], places) :=
  ⟨[], by kernel_rfl⟩

set_option maxRecDepth 100000 in
theorem lifted (os : Os) (started : os.Started) (H : Type) (enc : TypeId × Value → H) (F : Stop.Interp) :
    ReturnsInHanded {} Tryz.checked os 8 .any ((OpenSpec.ofChange Rows.partitionmapSpansSpec).preRow enc Tryz.prog Tryz.f8 Rows.partitionmapSpansRow.domain false Rows.partitionmapSpansRow.laid) (((OpenSpec.ofChange Rows.partitionmapSpansSpec).at F).post enc Tryz.prog Tryz.f8 false true false false) := by
  obtain ⟨places, hx⟩ := reads os enc
  refine returnsInHanded_of_row (C := Tryz.checked) (s := OpenSpec.ofChange Rows.partitionmapSpansSpec) Frame.own started (by kernel_rfl) Tryz.func8
    (witness_row_at (enc := enc) (C := Tryz.checked) false (Frame.world os) #[.agg #[.slice none 0 0, .int .i64 0, .int .i64 0, .slice none 0 0, .slice none 0 0, .slice none 0 0, .slice none 0 0], .agg #[.int .i64 0, .int .i64 0, .int .i64 0, .int .i64 0]] rfl (by kernel_rfl) (by kernel_rfl) (by kernel_rfl)
      (OpenSpec.preRow_of_cond 8 hx (by kernel_rfl) (fun k hk => by cases hk) (by kernel_rfl) (laid_met os))) ?_
  intro W base args ds gs before hval hW _ _ _ hL hSh _
  exact contract H enc W base args ds gs before hval hW hL hSh

theorem said : Rows.PartitionmapSpansSaid :=
  OpenClaim.holds_of_cond 8 Tryz.f8 rfl rfl rfl rfl rfl rfl rfl ⟨rfl, rfl, rfl, rfl, rfl⟩ rfl rfl rfl rfl rfl (by kernel_rfl) Tryz.func8 (by kernel_rfl)
    (of_decide_eq_true (by kernel_rfl)) (by unfold Func.isWrapper; first | (rw [if_pos (by decide +kernel)]; kernel_rfl) | (rw [if_neg (by decide +kernel)]; exact ⟨rfl, rfl⟩))
    (fun os started H enc _ F => by rw [OpenClaim.pre_eq_preRow]; exact lifted os started H enc F)

/-- No parameter wants a stand-in; the program's own looks are off: what the card asks. -/
theorem plain (f : FuncId) (fn : Func) (hf : Tryz.pinned.checked.prog.funcNamed "masterdisc/masterdisclaw37.PartitionmapSpans" = some f) (hfn : Tryz.pinned.checked.prog.funcs[f]? = some fn) :
    false = Tryz.pinned.checked.prog.looks [] ∧ ∀ (j : Nat) t, fn.params[j]? = some t → Tryz.pinned.checked.prog.wantsStandIn t = false := by
  obtain rfl : f = 8 := Option.some.inj ((show Tryz.prog.funcNamed "masterdisc/masterdisclaw37.PartitionmapSpans" = some 8 by kernel_rfl).symm.trans hf) |>.symm
  obtain rfl : fn = Tryz.f8 := (Option.some.inj (Tryz.func8.symm.trans hfn)).symm
  refine ⟨by kernel_rfl, fun j t ht => ?_⟩
  rw [Tryz.params8] at ht
  have hm := Array.mem_of_getElem? ht
  simp only [List.mem_toArray, List.mem_cons, List.not_mem_nil, or_false] at hm
  rcases hm with rfl | rfl
  · exact (show Tryz.prog.wantsStandIn 41 = false by kernel_rfl)
  · exact (show Tryz.prog.wantsStandIn 49 = false by kernel_rfl)

/-- ████ THE CARD ████ -/
theorem card : Rows.PartitionmapSpansCardSaid :=
  Claim7.holds_tied_plain_at .later [] _ _ _ _ said (fun _ h => by cases h) (by kernel_rfl) (fun _ h => by cases h) partitionmapSpans_row_tie rfl ⟨rfl, rfl⟩ (by kernel_rfl) rfl plain (by kernel_rfl)
#print axioms card
end Go.Proofs.YtlcdhlfkffkifaaGreatDoor.partitionmapSpans
