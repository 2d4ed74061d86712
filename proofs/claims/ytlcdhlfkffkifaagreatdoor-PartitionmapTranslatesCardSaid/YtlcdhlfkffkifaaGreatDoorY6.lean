/-
  The walk through the statement PartitionmapTranslates: it returns true.
-/
import Derived.Test.YtlcdhlfkffkifaaGreatDoorZN
import Derived.Test.YtlcdhlfkffkifaaGreatDoorZV
import Derived.Test.YtlcdhlfkffkifaaGreatDoorZM
import Derived.Carry
namespace Go.Proofs.YtlcdhlfkffkifaaGreatDoor
open Go.RowKit

set_option maxHeartbeats 6400000 in
set_option maxRecDepth 100000 in
/-- PartitionmapTranslates. -/
theorem lawTranslates_any (v : Value) (m : Pm.Mp) (v0 v1 v2 v3 v4 : Value) (n4 : Nat) (T : Nat → Value) (b p : Int) (w : World) (h : Frame.MapIn w v m v0 v1 v2 v3 v4 n4 T) (hb : -9223372036854775808 ≤ b ∧ b ≤ 9223372036854775807) (_hp : -9223372036854775808 ≤ p ∧ p ≤ 9223372036854775807)
    (hM : ∃ m : Int, w.cell? ⟨0, 0, none⟩ = some (.int .i64 m)) :
    Calls Tryz.prog 6 #[v, .agg #[.int .i64 b, .int .i64 p]] w fun e w' => e = .returned (.bool true) ∧ Below w.heap.size w w' := by
  obtain ⟨m0, hM⟩ := hM
  have hval := h.val
  subst hval
  have HI := Lib.hid h
  have hb0 : Below w.heap.size w ((w.alloc (.cells #[v0, .int .i64 m.start, .int .i64 m.count, v1, v2, v3, v4] 41)).alloc (.cells #[.int .i64 b, .int .i64 p] 43)) := ((Below.refl _ w).alloc (Nat.le_refl _) _).alloc (by simp) _
  have CA := Lib.hid (awake_any _ m0 ((hb0.cell (p := ⟨0, 0, none⟩) (World.block_lt_of_cell? _ _ hM)).trans hM))
  have CF := Lib.hid (fun W hW => few_any (Pm.mpV m v0 v1 v2 v3 v4) m v0 v1 v2 v3 v4 n4 T W hW)
  obtain ⟨A4, c4, hv4, _⟩ := h.mirror
  subst hv4
  have CT := Lib.hid (fun W (hW : Frame.MapIn W (Pm.mpV m v0 v1 v2 v3 (.slice A4 n4 c4)) m v0 v1 v2 v3 (.slice A4 n4 c4) n4 T) (ho : FewOk m) => translate_all m v0 v1 v2 v3 A4 n4 c4 T b p W ho.few ⟨hW.vat.1, hW.spares⟩ hW.maps ho.maps hW.mdat hb.1 hb.2)
  have CR := Lib.hid (fun W (hW : Frame.MapIn W (Pm.mpV m v0 v1 v2 v3 (.slice A4 n4 c4)) m v0 v1 v2 v3 (.slice A4 n4 c4) n4 T) (ho : FewOk m) => rTranslate_any m v0 v1 v2 v3 A4 n4 c4 T b p W ho.few ⟨hW.vat.1, hW.spares⟩ hW.maps ho.maps hW.mdat hb.1 hb.2)
  obtain ⟨A0, c0, hv0, _⟩ := h.maps.row
  obtain ⟨A1, c1, hv1, _⟩ := h.vat.1
  obtain ⟨A2, c2, hv2, _⟩ := h.spares
  obtain ⟨A3, c3, hv3, _⟩ := h.mdat.row
  subst hv0 hv1 hv2 hv3
  rw [Kit.izs_length] at *
  have HB0 := Lib.hid hb0
  generalize Pm.transR m b p = R at *
  obtain ⟨R1, R2⟩ := R
  clear hM h hb0
  unfold Pm.mpV at *
  obtain ⟨maps, s, n, vat, sps, me⟩ := m
  simp only [] at *
  go_enter Tryz.func6, Tryz.ntmps6
  go_wp2_with fail
  refine CA.out.mono ?_
  rintro e w1 ⟨rfl, hb1⟩
  have h1 := TwoB.of hb1
  have HI1 := Lib.hid ((HI.out.below HB0.out).below hb1)
  have HT1 := Lib.hid h1
  have x0 := h1.c 0 _ rfl
  have x1 := h1.c 1 _ rfl
  have x2 := h1.c 2 _ rfl
  have x3 := h1.c 3 _ rfl
  have x4 := h1.c 4 _ rfl
  have x5 := h1.c 5 _ rfl
  have x6 := h1.c 6 _ rfl
  have a0 := h1.d 0 _ rfl
  have a1 := h1.d 1 _ rfl
  clear h1 hb1
  go_wp2_with fail
  refine (CF.out _ HI1.out).mono ?_
  rintro e w2 ⟨bb, rfl, hf, hb2⟩
  have h2 := HT1.out.below hb2
  have HI2 := Lib.hid (HI1.out.below hb2)
  have HT2 := Lib.hid h2
  clear x0 x1 x2 x3 x4 x5 x6 a0 a1
  have x0 := h2.c 0 _ rfl
  have x1 := h2.c 1 _ rfl
  have x2 := h2.c 2 _ rfl
  have x3 := h2.c 3 _ rfl
  have x4 := h2.c 4 _ rfl
  have x5 := h2.c 5 _ rfl
  have x6 := h2.c 6 _ rfl
  have a0 := h2.d 0 _ rfl
  have a1 := h2.d 1 _ rfl
  clear h2 hb2 HI1 HT1 HI HB0
  cases bb with
  | false =>
    clear hf
    go_wp2_with fail
    go_ret
    exact ⟨rfl, HT2.out.old⟩
  | true =>
  have HO := Lib.hid (hf rfl)
  clear hf
  go_wp2_with fail
  refine (CT.out _ HI2.out HO.out).mono ?_
  rintro e w3 ⟨rfl, hb3⟩
  have h3 := HT2.out.below hb3
  have HI3 := Lib.hid (HI2.out.below hb3)
  have HT3 := Lib.hid h3
  clear x0 x1 x2 x3 x4 x5 x6 a0 a1
  have x0 := h3.c 0 _ rfl
  have x1 := h3.c 1 _ rfl
  have x2 := h3.c 2 _ rfl
  have x3 := h3.c 3 _ rfl
  have x4 := h3.c 4 _ rfl
  have x5 := h3.c 5 _ rfl
  have x6 := h3.c 6 _ rfl
  have a0 := h3.d 0 _ rfl
  have a1 := h3.d 1 _ rfl
  clear h3 hb3 HI2 HT2
  go_wp2_with fail
  refine (CR.out _ HI3.out HO.out).mono ?_
  rintro e w4 ⟨rfl, hb4⟩
  have HT4 := Lib.hid (HT3.out.below hb4)
  clear x0 x1 x2 x3 x4 x5 x6 a0 a1
  clear hb4
  go_wp2_with fail
  go_ret
  exact ⟨by simp, HT4.out.old⟩
end Go.Proofs.YtlcdhlfkffkifaaGreatDoor

/-
  YtlcdhlfkffkifaaGreatDoor: the statement PartitionmapTranslates: for every input the law returns true. No condition beside the row's own.
-/
namespace Go.Proofs.YtlcdhlfkffkifaaGreatDoor.partitionmapTranslates
open Go.ChangeShapes Go.WideShapes Go.ChangeAt Go.RowKit
open Go.ChangeMaps (open_string shut_string)
set_option linter.unusedVariables false

set_option maxRecDepth 100000 in
theorem contract (H : Type) (enc : TypeId × Value → H) (W : World) (base : Nat) (args : Array Value) (ds gs : List (DataW H)) (before : List MemPlace)
    (hval : ∀ (j : Nat) t v, Tryz.f6.params[j]? = some t → args[j]? = some v → Value.okWide Tryz.prog W .any base t v)
    (hW : DataW.Whole enc Tryz.prog Tryz.f6.params.toList Rows.partitionmapTranslatesSpec.vars false W args.toList ds gs before) (hL : laidMetH Tryz.prog Rows.partitionmapTranslatesRow.laid W) (hSh : W.ShapedOpen Tryz.prog) :
    Calls Tryz.prog 6 args W fun e W' => ∃ v, e = .returned v ∧ Rows.partitionmapTranslatesSpec.post enc Tryz.prog Tryz.f6 false true false false W args v W' := by
  have hW' := hW
  obtain ⟨p, q, hA0, hV, rfl, hfz, hnd⟩ := hW
  have hA : DataW.TrodAll enc Tryz.prog W 0 (fun _ => true) true Tryz.f6.params.toList args.toList ds p := hA0
  rw [Tryz.params6] at hA hval
  obtain ⟨v0, vs0, d0, ds0, p0, q0, hargs, rfl, rfl, h0, r0⟩ := trodAll_cons hA
  obtain ⟨v1, vs1, d1, ds1, p1, q1, rfl, rfl, rfl, h1, r1⟩ := trodAll_cons r0
  obtain ⟨rfl, rfl, rfl⟩ := trodAll_nil r1
  obtain rfl : args = #[v0, v1] := by cases args; simp_all
  obtain ⟨rfl, rfl⟩ := trodVars_none hV
  have h0k := h0
  obtain ⟨m0, u0_0, u1_0, u2_0, u3_0, u4_0, n4_0, T0, hm0⟩ := Frame.open_mapping W v0 d0 p0 (hval 0 41 v0 rfl rfl) h0
  have hlt0 : ∀ x ∈ p0, x.block < W.heap.size := fun x hx => by simpa using hW'.lt x (by simp [hx])
  have h1k := h1
  obtain ⟨y1, z1, rfl, hy1, hz1⟩ := Frame.open_address W v1 d1 p1 (hval 1 43 v1 rfl rfl) h1
  have hlt1 : ∀ x ∈ p1, x.block < W.heap.size := fun x hx => by simpa using hW'.lt x (by simp [hx])
  clear hA0
  refine (lawTranslates_any v0 m0 u0_0 u1_0 u2_0 u3_0 u4_0 n4_0 T0 y1 z1 W hm0 hy1 hz1 (Frame.maxlen hSh)).mono fun e W' ⟨he, bel⟩ => ?_
  subst he
  exact ⟨_, rfl, _, _, _, [], _, [], hW', trodAll_mk1 (shut_bool Tryz.underlying4 _), (trodAll_cons_mk (Below.trod Frame.laidOut (by kernel_rfl) (of_decide_eq_true (by kernel_rfl)) h0k bel hlt0) (trodAll_cons_mk (Below.trod Frame.laidOut (by kernel_rfl) (of_decide_eq_true (by kernel_rfl)) h1k bel hlt1) trodAll_mk0)), rfl, bel.frame _, fun h => by cases h⟩

theorem laid_met (os : Os) : laidMet Tryz.prog Rows.partitionmapTranslatesRow.laid ((Frame.world os).forCall (fun _ _ => 0) ⟨#[], #[.agg #[.slice none 0 0, .int .i64 0, .int .i64 0, .slice none 0 0, .slice none 0 0, .slice none 0 0, .slice none 0 0], .agg #[.int .i64 0, .int .i64 0]], []⟩).memory :=
  laidMet_of_run' 8 (by kernel_rfl) (by kernel_rfl)
theorem reads (os : Os) {H : Type} (enc : TypeId × Value → H) : ∃ places, DataW.whole enc Tryz.prog ((Frame.world os).forCall (fun _ _ => 0) ⟨#[], #[.agg #[.slice none 0 0, .int .i64 0, .int .i64 0, .slice none 0 0, .slice none 0 0, .slice none 0 0, .slice none 0 0], .agg #[.int .i64 0, .int .i64 0]], []⟩).memory Tryz.f6.params.toList Rows.partitionmapTranslatesSpec.vars false (#[.agg #[.slice none 0 0, .int .i64 0, .int .i64 0, .slice none 0 0, .slice none 0 0, .slice none 0 0, .slice none 0 0], .agg #[.int .i64 0, .int .i64 0]] : Array Value).toList 8 = some ([.agg [.nil, .agg [.lit (.int .i64 0), .lit (.int .i64 0)], .nil, .nil, .nil, .nil], .agg [.lit (.int .i64 0), .lit (.int .i64 0)]], [], places) :=
  ⟨[], by kernel_rfl⟩

set_option maxRecDepth 100000 in
theorem lifted (os : Os) (started : os.Started) (H : Type) (enc : TypeId × Value → H) (F : Stop.Interp) :
    ReturnsInHanded {} Tryz.checked os 6 .any ((OpenSpec.ofChange Rows.partitionmapTranslatesSpec).preRow enc Tryz.prog Tryz.f6 Rows.partitionmapTranslatesRow.domain false Rows.partitionmapTranslatesRow.laid) (((OpenSpec.ofChange Rows.partitionmapTranslatesSpec).at F).post enc Tryz.prog Tryz.f6 false true false false) := by
  obtain ⟨places, hx⟩ := reads os enc
  refine returnsInHanded_of_row (C := Tryz.checked) (s := OpenSpec.ofChange Rows.partitionmapTranslatesSpec) Frame.own started (by kernel_rfl) Tryz.func6
    (witness_row_at (enc := enc) (C := Tryz.checked) false (Frame.world os) #[.agg #[.slice none 0 0, .int .i64 0, .int .i64 0, .slice none 0 0, .slice none 0 0, .slice none 0 0, .slice none 0 0], .agg #[.int .i64 0, .int .i64 0]] rfl (by kernel_rfl) (by kernel_rfl) (by kernel_rfl)
      (OpenSpec.preRow_of_cond 8 hx (by kernel_rfl) (fun k hk => by cases hk) (by kernel_rfl) (laid_met os))) ?_
  intro W base args ds gs before hval hW _ _ _ hL hSh _
  exact contract H enc W base args ds gs before hval hW hL hSh

theorem said : Rows.PartitionmapTranslatesSaid :=
  OpenClaim.holds_of_cond 6 Tryz.f6 rfl rfl rfl rfl rfl rfl rfl ⟨rfl, rfl, rfl, rfl, rfl⟩ rfl rfl rfl rfl rfl (by kernel_rfl) Tryz.func6 (by kernel_rfl)
    (of_decide_eq_true (by kernel_rfl)) (by unfold Func.isWrapper; first | (rw [if_pos (by decide +kernel)]; kernel_rfl) | (rw [if_neg (by decide +kernel)]; exact ⟨rfl, rfl⟩))
    (fun os started H enc _ F => by rw [OpenClaim.pre_eq_preRow]; exact lifted os started H enc F)

/-- No parameter wants a stand-in; the program's own looks are off: what the card asks. -/
theorem plain (f : FuncId) (fn : Func) (hf : Tryz.pinned.checked.prog.funcNamed "masterdisc/masterdisclaw37.PartitionmapTranslates" = some f) (hfn : Tryz.pinned.checked.prog.funcs[f]? = some fn) :
    false = Tryz.pinned.checked.prog.looks [] ∧ ∀ (j : Nat) t, fn.params[j]? = some t → Tryz.pinned.checked.prog.wantsStandIn t = false := by
  obtain rfl : f = 6 := Option.some.inj ((show Tryz.prog.funcNamed "masterdisc/masterdisclaw37.PartitionmapTranslates" = some 6 by kernel_rfl).symm.trans hf) |>.symm
  obtain rfl : fn = Tryz.f6 := (Option.some.inj (Tryz.func6.symm.trans hfn)).symm
  refine ⟨by kernel_rfl, fun j t ht => ?_⟩
  rw [Tryz.params6] at ht
  have hm := Array.mem_of_getElem? ht
  simp only [List.mem_toArray, List.mem_cons, List.not_mem_nil, or_false] at hm
  rcases hm with rfl | rfl
  · exact (show Tryz.prog.wantsStandIn 41 = false by kernel_rfl)
  · exact (show Tryz.prog.wantsStandIn 43 = false by kernel_rfl)

/-- ████ THE CARD ████ -/
theorem card : Rows.PartitionmapTranslatesCardSaid :=
  Claim7.holds_tied_plain_at .later [] _ _ _ _ said (fun _ h => by cases h) (by kernel_rfl) (fun _ h => by cases h) partitionmapTranslates_row_tie rfl ⟨rfl, rfl⟩ (by kernel_rfl) rfl plain (by kernel_rfl)
#print axioms card
end Go.Proofs.YtlcdhlfkffkifaaGreatDoor.partitionmapTranslates
