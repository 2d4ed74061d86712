/-
  The walk through the statement PartitionmapKinds: it returns true.
-/
import Derived.Test.YtlcdhlfkffkifaaGreatDoorZN
import Derived.Test.YtlcdhlfkffkifaaGreatDoorZR
import Derived.Test.YtlcdhlfkffkifaaGreatDoorZM
import Derived.Carry
namespace Go.Proofs.YtlcdhlfkffkifaaGreatDoor
open Go.RowKit
namespace Pm
theorem mapsR_kinds (kind : Int) (ts : List Int) (f m b : Int) : (mapsR kind ts f m b).map M.kind = kindsR kind := by
  unfold mapsR kindsR
  split
  · rfl
  · split
    · rfl
    · split
      · rfl
      · split
        · rfl
        · rfl
theorem mapsR_nums (kind : Int) (ts : List Int) (f m b : Int) : ∀ x ∈ mapsR kind ts f m b, x.number = 0 := by
  intro x hx
  obtain ⟨k, _, rfl⟩ := List.mem_map.1 hx
  unfold mapR
  split
  · rfl
  · split <;> rfl
theorem mapsR_few (kind : Int) (ts : List Int) (f m b : Int) (h : ts.length ≤ 8) : Few (mapsR kind ts f m b) := by
  have hl : (mapsR kind ts f m b).length ≤ 2 := by
    have := congrArg List.length (mapsR_kinds kind ts f m b)
    rw [List.length_map] at this
    rw [this]
    unfold kindsR
    split
    · simp
    · split
      · simp
      · split
        · simp
        · split <;> simp
  refine ⟨by omega, fun j hj => ?_⟩
  have hx : (mapsR kind ts f m b).getD j none ∈ mapsR kind ts f m b := by
    simp [List.getD, hj]
  obtain ⟨k, _, hk⟩ := List.mem_map.1 hx
  rw [← hk]
  unfold mapR
  split
  · exact h
  · split <;> simp
/-- The law on kinds. -/
theorem kinds_law (kind : Int) (ts : List Int) (f m b : Int) :
    ((encR (mapsR kind ts f m b)).2 = 0 ∧ 0 < (mapsR kind ts f m b).length ∧ kindR (mapsR kind ts f m b) = kind) ∨
    ((encR (mapsR kind ts f m b)).2 = 0 ∧ (mapsR kind ts f m b).length = 0 ∧ kindR (mapsR kind ts f m b) = -1) ∨
    ((encR (mapsR kind ts f m b)).2 = 1 ∧ kindR (mapsR kind ts f m b) = -1) := by
  by_cases ha : all (mapsR kind ts f m b) = true
  · have he : (encR (mapsR kind ts f m b)).2 = 0 := by unfold encR; rw [if_pos ha]
    have hn : (mapsR kind ts f m b).all (isNum ((mapsR kind ts f m b).getD 0 none).number) = true := by
      rw [List.all_eq_true]
      intro x hx
      have h1 := mapsR_nums kind ts f m b x hx
      have h2 : ((mapsR kind ts f m b).getD 0 none).number = 0 := by
        cases hl : mapsR kind ts f m b with
        | nil => rfl
        | cons y t => exact mapsR_nums kind ts f m b y (by rw [hl]; simp)
      unfold isNum
      rw [h1, h2]
      rfl
    have hk : kindR (mapsR kind ts f m b) = kindK (kindsR kind) := by
      unfold kindR
      rw [if_pos ⟨ha, hn⟩, mapsR_kinds]
    have hl : (mapsR kind ts f m b).length = (kindsR kind).length := by simp [mapsR]
    rw [he, hk, hl]
    by_cases h0 : kind = 0
    · subst h0; exact Or.inl ⟨rfl, by decide, by decide +kernel⟩
    · by_cases h1 : kind = 1
      · subst h1; exact Or.inl ⟨rfl, by decide, by decide +kernel⟩
      · by_cases h2 : kind = 2
        · subst h2; exact Or.inl ⟨rfl, by decide, by decide +kernel⟩
        · by_cases h3 : kind = 3
          · subst h3; exact Or.inl ⟨rfl, by decide, by decide +kernel⟩
          · have : kindsR kind = [] := by unfold kindsR; rw [if_neg h0, if_neg h1, if_neg h2, if_neg h3]
            rw [this]
            exact Or.inr (Or.inl ⟨rfl, rfl, by decide +kernel⟩)
  · refine Or.inr (Or.inr ⟨?_, ?_⟩)
    · unfold encR; rw [if_neg ha]
    · unfold kindR; rw [if_neg (fun h => ha h.1)]
end Pm
/-- masterdiscref37.Maps. -/
theorem rMaps_any (kind : Int) (tv : Value) (ts : List Int) (f m b : Int) (w : World) (hr : Kit.RowS w tv (Kit.izs ts)) (hl : ts.length ≤ 64) (hi : Pm.I64 ⟨3, 0, [], f, m, b⟩) :
    Calls Tryz.prog 19 #[.int .i64 kind, tv, .int .i64 f, .int .i64 m, .int .i64 b] w fun e w' => ∃ v L, e = .returned v ∧ L.map Prod.fst = Pm.mapsR kind ts f m b ∧ Pm.OwnM w' w.heap.size v L ∧ Below w.heap.size w w' := by
  by_cases h2 : kind = 2
  · subst h2
    exact rMaps_2 tv ts f m b w hr hl
  · exact rMaps_not2 kind tv ts f m b w h2 hi

set_option maxHeartbeats 3200000 in
set_option maxRecDepth 100000 in
/-- PartitionmapKinds. -/
theorem lawKinds_any (v : Value) (l : List Pm.M) (T : Nat → Value) (kind : Int) (tv : Value) (ts : List Int) (f m b : Int) (w : World) (hm : Pm.MapsAt w v l T) (hk : (Lit.int .i64 kind).wf = true)
    (hr : Kit.RowS w tv (Kit.izs ts)) (_ht : ∀ z ∈ ts, -9223372036854775808 ≤ z ∧ z ≤ 9223372036854775807) (hf : (Lit.int .i64 f).wf = true) (hmi : (Lit.int .i64 m).wf = true) (hb : (Lit.int .i64 b).wf = true)
    (hM : ∃ m : Int, w.cell? ⟨0, 0, none⟩ = some (.int .i64 m)) :
    Calls Tryz.prog 5 #[v, .int .i64 kind, tv, .int .i64 f, .int .i64 m, .int .i64 b] w fun e w' => e = .returned (.bool true) ∧ Below w.heap.size w w' := by
  obtain ⟨mx, hM⟩ := hM
  have CA := Lib.hid (awake_any w mx hM)
  have CF := Lib.hid (fun W h => fewMaps_any v l T W h)
  have HM := Lib.hid hm
  have HR := Lib.hid hr
  have hI : Pm.I64 ⟨3, 0, [], f, m, b⟩ := ⟨by simp, by simp, Frame.i64_of_wf hf, Frame.i64_of_wf hmi, Frame.i64_of_wf hb⟩
  have HI := Lib.hid hI
  have HK := Lib.hid hk
  obtain ⟨A, c, rfl, hlc, hcm, _⟩ := hm.row
  obtain ⟨⟨A1, c1, rfl, _, _, _⟩, _⟩ := hr
  rw [Kit.izs_length] at *
  clear hM hm hf hmi hb hk hI
  by_cases hfw : Pm.fewB l = true
  case neg =>
    have hf' : Pm.fewB l = false := by simpa using hfw
    rw [hf'] at CF
    clear hfw hf'
    go_enter Tryz.func5, Tryz.ntmps5
    go_wp2_with fail
    refine CA.out.mono ?_
    rintro e w1 ⟨rfl, hb1⟩
    have HB1 := Lib.hid hb1
    clear hb1
    go_wp2_with fail
    refine (CF.out _ (HM.out.below HB1.out)).mono ?_
    rintro e w2 ⟨rfl, rfl⟩
    go_wp2_with fail
    go_ret
    exact ⟨rfl, HB1.out⟩
  have HFL := Lib.hid (Pm.few_of hfw)
  rw [hfw] at CF
  clear hfw
  by_cases h8 : 8 < ts.length
  · have d8 : decide (8 < (ts.length : Int)) = true := decide_eq_true (by omega)
    go_enter Tryz.func5, Tryz.ntmps5
    go_wp2_with fail
    refine CA.out.mono ?_
    rintro e w1 ⟨rfl, hb1⟩
    have HB1 := Lib.hid hb1
    clear hb1
    go_wp2_with fail
    refine (CF.out _ (HM.out.below HB1.out)).mono ?_
    rintro e w2 ⟨rfl, rfl⟩
    go_wp2_with fail
    go_ret
    exact ⟨rfl, HB1.out⟩
  have d8 : decide (8 < (ts.length : Int)) = false := decide_eq_false (by omega)
  have hlaw := Pm.kinds_law kind ts f m b
  have hfew := Pm.mapsR_few kind ts f m b (by omega)
  have CM := Lib.hid (fun W h => maps_any kind (.slice A1 ts.length c1) ts f m b W h (by omega) HK.out HI.out)
  have CRM := Lib.hid (fun W h => rMaps_any kind (.slice A1 ts.length c1) ts f m b W h (by omega) HI.out)
  have CK := Lib.hid (fun W h => kind_any (.slice A l.length c) l T W h HFL.out)
  have CRK := Lib.hid (fun W h => rKind_any (.slice A l.length c) l T W h HFL.out)
  generalize Pm.mapsR kind ts f m b = la at *
  have CK2 := Lib.hid (fun v T W h => kind_any v la T W h hfew)
  have CE := Lib.hid (fun v T W h => encode_any v la T W h hfew)
  generalize Pm.kindR l = kl at *
  generalize Pm.encR la = en at *
  obtain ⟨S, er⟩ := en
  simp only [] at *
  have HLAW := Lib.hid hlaw
  clear hlaw hfew h8 HK HI HFL
  go_enter Tryz.func5, Tryz.ntmps5
  go_wp2_with fail
  refine CA.out.mono ?_
  rintro e w1 ⟨rfl, hb1⟩
  have HB1 := Lib.hid hb1
  clear hb1
  go_wp2_with fail
  refine (CF.out _ (HM.out.below HB1.out)).mono ?_
  rintro e w2 ⟨rfl, rfl⟩
  go_wp2_with fail
  refine (CM.out _ (HR.out.below HB1.out)).mono ?_
  rintro e w2 ⟨va, La, rfl, hLa, hOa, hb2⟩
  have HB2 := Lib.hid (HB1.out.trans (hb2.mono HB1.out.size))
  have hma := hOa.at'
  rw [hLa] at hma
  obtain ⟨Aa, ca, hva, _⟩ := hma.row
  subst hva
  have HMA := Lib.hid hma
  clear hb2 hma hLa hOa
  go_wp2_with fail
  refine (CK.out _ (HM.out.below HB2.out)).mono ?_
  rintro e w3 ⟨rfl, hb3⟩
  have HB3 := Lib.hid (HB2.out.trans (hb3.mono HB2.out.size))
  have HMA3 := Lib.hid (HMA.out.below hb3)
  clear hb3 HMA
  go_wp2_with fail
  refine (CRK.out _ (HM.out.below HB3.out)).mono ?_
  rintro e w4 ⟨rfl, hb4⟩
  have HB4 := Lib.hid (HB3.out.trans (hb4.mono HB3.out.size))
  have HMA4 := Lib.hid (HMA3.out.below hb4)
  have ek : (kl != kl) = false := by simp
  clear hb4 HMA3
  go_wp2_with fail
  refine (CRM.out _ (HR.out.below HB4.out)).mono ?_
  rintro e w5 ⟨vr, Lr, rfl, hLr, hOr, hb5⟩
  have HB5 := Lib.hid (HB4.out.trans (hb5.mono HB4.out.size))
  have HMA5 := Lib.hid (HMA4.out.below hb5)
  have hmr := hOr.at'
  rw [hLr] at hmr
  have HMR := Lib.hid hmr
  clear hb5 hmr hLr hOr HMA4
  go_wp2_with fail
  refine (sameMaps_any _ _ la _ _ _ HMA5.out HMR.out).mono ?_
  rintro e w6 ⟨rfl, hb6⟩
  have HB6 := Lib.hid (HB5.out.trans (hb6.mono HB5.out.size))
  have HMA6 := Lib.hid (HMA5.out.below hb6)
  clear hb6 HMA5 HMR
  go_wp2_with fail
  refine (CK2.out _ _ _ HMA6.out).mono ?_
  rintro e w7 ⟨rfl, hb7⟩
  have HB7 := Lib.hid (HB6.out.trans (hb7.mono HB6.out.size))
  have HMA7 := Lib.hid (HMA6.out.below hb7)
  clear hb7 HMA6
  go_wp2_with fail
  refine (CE.out _ _ _ HMA7.out).mono ?_
  rintro e w8 ⟨rfl, hb8⟩
  have HB8 := Lib.hid (HB7.out.trans (hb8.mono HB7.out.size))
  clear hb8 HMA7 ek d8
  rcases HLAW.out with ⟨h1, h2, h3⟩ | ⟨h1, h2, h3⟩ | ⟨h1, h3⟩
  · subst h1
    have e1 : decide (0 < (la.length : Int)) = true := decide_eq_true (by omega)
    have e1' : (0 : Int) < (la.length : Int) := by omega
    have e2 : (Pm.kindR la == kind) = true := by rw [beq_iff_eq]; exact h3
    clear h3
    generalize Pm.kindR la = ka at *
    go_wp2_with fail
    go_ret
    exact ⟨rfl, HB8.out⟩
  · subst h1
    obtain rfl : la = [] := List.eq_nil_of_length_eq_zero h2
    rw [h3] at *
    clear h2 h3
    simp only [List.length_nil] at *
    go_wp2_with fail
    go_ret
    exact ⟨rfl, HB8.out⟩
  · subst h1
    rw [h3] at *
    clear h3
    go_wp2_with fail
    go_ret
    exact ⟨rfl, HB8.out⟩
end Go.Proofs.YtlcdhlfkffkifaaGreatDoor

/-
  YtlcdhlfkffkifaaGreatDoor: the statement PartitionmapKinds: for every input the law returns true. No condition beside the row's own.
-/
namespace Go.Proofs.YtlcdhlfkffkifaaGreatDoor.partitionmapKinds
open Go.ChangeShapes Go.WideShapes Go.ChangeAt Go.RowKit
open Go.ChangeMaps (open_string shut_string)
set_option linter.unusedVariables false

set_option maxRecDepth 100000 in
theorem contract (H : Type) (enc : TypeId × Value → H) (W : World) (base : Nat) (args : Array Value) (ds gs : List (DataW H)) (before : List MemPlace)
    (hval : ∀ (j : Nat) t v, Tryz.f5.params[j]? = some t → args[j]? = some v → Value.okWide Tryz.prog W .any base t v)
    (hW : DataW.Whole enc Tryz.prog Tryz.f5.params.toList Rows.partitionmapKindsSpec.vars false W args.toList ds gs before) (hL : laidMetH Tryz.prog Rows.partitionmapKindsRow.laid W) (hSh : W.ShapedOpen Tryz.prog) :
    Calls Tryz.prog 5 args W fun e W' => ∃ v, e = .returned v ∧ Rows.partitionmapKindsSpec.post enc Tryz.prog Tryz.f5 false true false false W args v W' := by
  have hW' := hW
  obtain ⟨p, q, hA0, hV, rfl, hfz, hnd⟩ := hW
  have hA : DataW.TrodAll enc Tryz.prog W 0 (fun _ => true) true Tryz.f5.params.toList args.toList ds p := hA0
  rw [Tryz.params5] at hA hval
  obtain ⟨v0, vs0, d0, ds0, p0, q0, hargs, rfl, rfl, h0, r0⟩ := trodAll_cons hA
  obtain ⟨v1, vs1, d1, ds1, p1, q1, rfl, rfl, rfl, h1, r1⟩ := trodAll_cons r0
  obtain ⟨v2, vs2, d2, ds2, p2, q2, rfl, rfl, rfl, h2, r2⟩ := trodAll_cons r1
  obtain ⟨v3, vs3, d3, ds3, p3, q3, rfl, rfl, rfl, h3, r3⟩ := trodAll_cons r2
  obtain ⟨v4, vs4, d4, ds4, p4, q4, rfl, rfl, rfl, h4, r4⟩ := trodAll_cons r3
  obtain ⟨v5, vs5, d5, ds5, p5, q5, rfl, rfl, rfl, h5, r5⟩ := trodAll_cons r4
  obtain ⟨rfl, rfl, rfl⟩ := trodAll_nil r5
  obtain rfl : args = #[v0, v1, v2, v3, v4, v5] := by cases args; simp_all
  obtain ⟨rfl, rfl⟩ := trodVars_none hV
  have h0k := h0
  obtain ⟨l0, T0, hm0⟩ := Frame.open_pms W v0 d0 p0 (hval 0 22 v0 rfl rfl) h0
  have hlt0 : ∀ x ∈ p0, x.block < W.heap.size := fun x hx => by simpa using hW'.lt x (by simp [hx])
  obtain ⟨s1, rfl, rfl, rfl, w1⟩ := open_int Tryz.underlying3 (hval 1 3 v1 rfl rfl) h1
  have h2k := h2
  obtain ⟨xs2, hrow2, hwf2⟩ := Frame.open_l2 W v2 d2 p2 (hval 2 32 v2 rfl rfl) h2
  have hlt2 : ∀ x ∈ p2, x.block < W.heap.size := fun x hx => by simpa using hW'.lt x (by simp [hx])
  obtain ⟨s3, rfl, rfl, rfl, w3⟩ := open_int Tryz.underlying3 (hval 3 3 v3 rfl rfl) h3
  obtain ⟨s4, rfl, rfl, rfl, w4⟩ := open_int Tryz.underlying3 (hval 4 3 v4 rfl rfl) h4
  obtain ⟨s5, rfl, rfl, rfl, w5⟩ := open_int Tryz.underlying3 (hval 5 3 v5 rfl rfl) h5
  clear hA0
  refine (lawKinds_any v0 l0 T0 s1 v2 xs2 s3 s4 s5 W hm0 w1 hrow2 hwf2 w3 w4 w5 (Frame.maxlen hSh)).mono fun e W' ⟨he, bel⟩ => ?_
  subst he
  exact ⟨_, rfl, _, _, _, [], _, [], hW', trodAll_mk1 (shut_bool Tryz.underlying4 _), (trodAll_cons_mk (Below.trod Frame.laidOut (by kernel_rfl) (of_decide_eq_true (by kernel_rfl)) h0k bel hlt0) (trodAll_cons_mk (shut_int Tryz.underlying3 w1) (trodAll_cons_mk (Below.trod Frame.laidOut (by kernel_rfl) (of_decide_eq_true (by kernel_rfl)) h2k bel hlt2) (trodAll_cons_mk (shut_int Tryz.underlying3 w3) (trodAll_cons_mk (shut_int Tryz.underlying3 w4) (trodAll_cons_mk (shut_int Tryz.underlying3 w5) trodAll_mk0)))))), rfl, bel.frame _, fun h => by cases h⟩

theorem laid_met (os : Os) : laidMet Tryz.prog Rows.partitionmapKindsRow.laid ((Frame.world os).forCall (fun _ _ => 0) ⟨#[], #[.slice none 0 0, .int .i64 0, .slice none 0 0, .int .i64 0, .int .i64 0, .int .i64 0], []⟩).memory :=
  laidMet_of_run' 8 (by kernel_rfl) (by kernel_rfl)
theorem reads (os : Os) {H : Type} (enc : TypeId × Value → H) : ∃ places, DataW.whole enc Tryz.prog ((Frame.world os).forCall (fun _ _ => 0) ⟨#[], #[.slice none 0 0, .int .i64 0, .slice none 0 0, .int .i64 0, .int .i64 0, .int .i64 0], []⟩).memory Tryz.f5.params.toList Rows.partitionmapKindsSpec.vars false (#[.slice none 0 0, .int .i64 0, .slice none 0 0, .int .i64 0, .int .i64 0, .int .i64 0] : Array Value).toList 8 = some ([.nil, .lit (.int .i64 0), .nil, .lit (.int .i64 0), .lit (.int .i64 0), .lit (.int .i64 0)], [], places) :=
  ⟨[], by kernel_rfl⟩

set_option maxRecDepth 100000 in
theorem lifted (os : Os) (started : os.Started) (H : Type) (enc : TypeId × Value → H) (F : Stop.Interp) :
    ReturnsInHanded {} Tryz.checked os 5 .any ((OpenSpec.ofChange Rows.partitionmapKindsSpec).preRow enc Tryz.prog Tryz.f5 Rows.partitionmapKindsRow.domain false Rows.partitionmapKindsRow.laid) (((OpenSpec.ofChange Rows.partitionmapKindsSpec).at F).post enc Tryz.prog Tryz.f5 false true false false) := by
  obtain ⟨places, hx⟩ := reads os enc
  refine returnsInHanded_of_row (C := Tryz.checked) (s := OpenSpec.ofChange Rows.partitionmapKindsSpec) Frame.own started (by kernel_rfl) Tryz.func5
    (witness_row_at (enc := enc) (C := Tryz.checked) false (Frame.world os) #[.slice none 0 0, .int .i64 0, .slice none 0 0, .int .i64 0, .int .i64 0, .int .i64 0] rfl (by kernel_rfl) (by kernel_rfl) (by kernel_rfl)
      (OpenSpec.preRow_of_cond 8 hx (by kernel_rfl) (fun k hk => by cases hk) (by kernel_rfl) (laid_met os))) ?_
  intro W base args ds gs before hval hW _ _ _ hL hSh _
  exact contract H enc W base args ds gs before hval hW hL hSh

theorem said : Rows.PartitionmapKindsSaid :=
  OpenClaim.holds_of_cond 5 Tryz.f5 rfl rfl rfl rfl rfl rfl rfl ⟨rfl, rfl, rfl, rfl, rfl⟩ rfl rfl rfl rfl rfl (by kernel_rfl) Tryz.func5 (by kernel_rfl)
    (of_decide_eq_true (by kernel_rfl)) (by unfold Func.isWrapper; first | (rw [if_pos (by decide +kernel)]; kernel_rfl) | (rw [if_neg (by decide +kernel)]; exact ⟨rfl, rfl⟩))
    (fun os started H enc _ F => by rw [OpenClaim.pre_eq_preRow]; exact lifted os started H enc F)

/-- No parameter wants a stand-in; the program's own looks are off: what the card asks. -/
theorem plain (f : FuncId) (fn : Func) (hf : Tryz.pinned.checked.prog.funcNamed "masterdisc/masterdisclaw37.PartitionmapKinds" = some f) (hfn : Tryz.pinned.checked.prog.funcs[f]? = some fn) :
    false = Tryz.pinned.checked.prog.looks [] ∧ ∀ (j : Nat) t, fn.params[j]? = some t → Tryz.pinned.checked.prog.wantsStandIn t = false := by
  obtain rfl : f = 5 := Option.some.inj ((show Tryz.prog.funcNamed "masterdisc/masterdisclaw37.PartitionmapKinds" = some 5 by kernel_rfl).symm.trans hf) |>.symm
  obtain rfl : fn = Tryz.f5 := (Option.some.inj (Tryz.func5.symm.trans hfn)).symm
  refine ⟨by kernel_rfl, fun j t ht => ?_⟩
  rw [Tryz.params5] at ht
  have hm := Array.mem_of_getElem? ht
  simp only [List.mem_toArray, List.mem_cons, List.not_mem_nil, or_false] at hm
  rcases hm with rfl | rfl | rfl | rfl | rfl | rfl
  · exact (show Tryz.prog.wantsStandIn 22 = false by kernel_rfl)
  · exact (show Tryz.prog.wantsStandIn 3 = false by kernel_rfl)
  · exact (show Tryz.prog.wantsStandIn 32 = false by kernel_rfl)
  · exact (show Tryz.prog.wantsStandIn 3 = false by kernel_rfl)
  · exact (show Tryz.prog.wantsStandIn 3 = false by kernel_rfl)
  · exact (show Tryz.prog.wantsStandIn 3 = false by kernel_rfl)

/-- ████ THE CARD ████ -/
theorem card : Rows.PartitionmapKindsCardSaid :=
  Claim7.holds_tied_plain_at .later [] _ _ _ _ said (fun _ h => by cases h) (by kernel_rfl) (fun _ h => by cases h) partitionmapKinds_row_tie rfl ⟨rfl, rfl⟩ (by kernel_rfl) rfl plain (by kernel_rfl)
#print axioms card
end Go.Proofs.YtlcdhlfkffkifaaGreatDoor.partitionmapKinds
