/-
  The walk through the statement PartitionmapReturns: it returns true.
-/
import Derived.Test.YtlcdhlfkffkifaaDoorZN
import Derived.Test.YtlcdhlfkffkifaaDoorZL
import Derived.Test.YtlcdhlfkffkifaaDoorZM
import Derived.Carry
namespace Go.Proofs.YtlcdhlfkffkifaaDoor
open Go.RowKit
namespace Pm
theorem flatB_len {l : List M} (h : l.all valid = true) : (l.flatMap bytes).length ≤ 64 * l.length := by
  induction l with
  | nil => simp
  | cons x t ih =>
    rw [List.all_cons, Bool.and_eq_true] at h
    have h1 := bytes_len h.1
    have h2 := ih h.2
    simp only [List.flatMap_cons, List.length_append, List.length_cons]
    split at h1 <;> omega
end Pm

set_option maxHeartbeats 3200000 in
set_option maxRecDepth 100000 in
/-- PartitionmapReturns. -/
theorem lawReturns_any (v : Value) (l : List Pm.M) (T : Nat → Value) (w : World) (hm : Pm.MapsAt w v l T) (hM : ∃ m : Int, w.cell? ⟨0, 0, none⟩ = some (.int .i64 m)) :
    Calls Tryd.prog 3 #[v] w fun e w' => e = .returned (.bool true) ∧ Below w.heap.size w w' := by
  obtain ⟨m, hM⟩ := hM
  have CA := Lib.hid (awake_any w m hM)
  have CF := Lib.hid (fun W h => fewMaps_any v l T W h)
  have HMX := Lib.hid hM
  have HM := Lib.hid hm
  obtain ⟨A, c, rfl, hlc, hcm, _⟩ := hm.row
  clear hM hm
  by_cases hf : Pm.fewB l = true
  case neg =>
    have hf' : Pm.fewB l = false := by simpa using hf
    rw [hf'] at CF
    clear hf hf'
    go_enter Tryd.func3, Tryd.ntmps3
    go_wp2_with fail
    refine CA.out.mono ?_
    rintro e w1 ⟨rfl, hb1⟩
    have HB1 := Lib.hid hb1
    clear hb1
    go_wp2_with fail
    refine (CF.out _ (HM.out.below HB1.out)).mono ?_
    rintro e w2 ⟨rfl, rfl⟩
    go_wp2_with fail
    go_ret
    exact ⟨rfl, HB1.out⟩
  have CE := Lib.hid (fun W h => encode_any (.slice A l.length c) l T W h (Pm.few_of hf))
  rw [hf] at CF
  clear hf
  cases ha : Pm.all l with
  | false =>
    have he : Pm.encR l = ([], 1) := by unfold Pm.encR; rw [ha, if_neg (by decide)]
    rw [he] at CE
    clear ha he
    go_enter Tryd.func3, Tryd.ntmps3
    go_wp2_with fail
    refine CA.out.mono ?_
    rintro e w1 ⟨rfl, hb1⟩
    have HB1 := Lib.hid hb1
    clear hb1
    go_wp2_with fail
    refine (CF.out _ (HM.out.below HB1.out)).mono ?_
    rintro e w2 ⟨rfl, rfl⟩
    go_wp2_with fail
    refine (CE.out _ (HM.out.below HB1.out)).mono ?_
    rintro e w2 ⟨rfl, hb2⟩
    have HB2 := Lib.hid (HB1.out.trans (hb2.mono HB1.out.size))
    clear hb2
    go_wp2_with fail
    go_ret
    exact ⟨rfl, HB2.out⟩
  | true =>
  have he : Pm.encR l = (l.flatMap Pm.bytes, 0) := by unfold Pm.encR; rw [ha, if_pos rfl]
  rw [he] at CE
  have hr := Pm.returns_of ha
  have hall : l.length ≤ 4 ∧ l.all Pm.valid = true := by
    unfold Pm.all at ha
    rw [Bool.and_eq_true, decide_eq_true_eq] at ha
    exact ha
  have hfl := Pm.flatB_len hall.2
  obtain ⟨sb, hsb⟩ : ∃ sb : ByteArray, sb = ⟨(l.flatMap Pm.bytes).toArray⟩ := ⟨_, rfl⟩
  have hdat : sb.data.toList = l.flatMap Pm.bytes := by rw [hsb]
  have hsz : sb.size ≤ 4096 := by
    rw [hsb]
    show (l.flatMap Pm.bytes).toArray.size ≤ 4096
    rw [List.size_toArray]
    omega
  rw [show (⟨((l.flatMap Pm.bytes, (0 : Int)).1).toArray⟩ : ByteArray) = sb from hsb.symm] at CE
  have C1 := Lib.hid (fun W h => decode_all sb (l.length : Int) W m h hsz)
  have C2 := Lib.hid (fun W h => decode_all sb ((l.length : Int) + 1) W m h hsz)
  have C3 := Lib.hid (fun W h => decode_all sb ((l.length : Int) - 1) W m h hsz)
  rw [hdat] at C1 C2 C3
  rw [hr.1] at C1
  have h2 := hr.2.1
  have h3 := hr.2.2
  generalize Pm.decR (l.flatMap Pm.bytes) ((l.length : Int) + 1) = R2 at *
  generalize Pm.decR (l.flatMap Pm.bytes) ((l.length : Int) - 1) = R3 at *
  obtain ⟨l2, e2⟩ := R2
  obtain ⟨l3, e3⟩ := R3
  simp only [] at *
  have b2 : (e2 != 0) = true := by rw [bne_iff_ne]; exact h2
  have b3 : (e3 != 0) = true := by rw [bne_iff_ne]; exact h3
  have h4 := hall.1
  clear ha he hr hall hfl hsb hdat hsz h2 h3
  go_enter Tryd.func3, Tryd.ntmps3
  go_wp2_with fail
  refine CA.out.mono ?_
  rintro e w1 ⟨rfl, hb1⟩
  have HB1 := Lib.hid hb1
  clear hb1
  go_wp2_with fail
  refine (CF.out _ (HM.out.below HB1.out)).mono ?_
  rintro e w2 ⟨rfl, rfl⟩
  go_wp2_with fail
  refine (CE.out _ (HM.out.below HB1.out)).mono ?_
  rintro e w2 ⟨rfl, hb2⟩
  have HB2 := Lib.hid (HB1.out.trans (hb2.mono HB1.out.size))
  have HM2 := Lib.hid ((HB2.out.cell (p := ⟨0, 0, none⟩) (World.block_lt_of_cell? _ _ HMX.out)).trans HMX.out)
  clear hb2
  go_wp2_with fail
  refine (C1.out _ HM2.out).mono ?_
  rintro e w3 ⟨v1, L1, rfl, hL1, hO1, hb3⟩
  have HB3 := Lib.hid (HB2.out.trans (hb3.mono HB2.out.size))
  have HM3 := Lib.hid ((HB3.out.cell (p := ⟨0, 0, none⟩) (World.block_lt_of_cell? _ _ HMX.out)).trans HMX.out)
  have HO1 := Lib.hid hO1
  have HL1 := Lib.hid hL1
  clear hb3 hO1 hL1
  go_wp2_with fail
  refine (C2.out _ HM3.out).mono ?_
  rintro e w4 ⟨v2, L2, rfl, _, _, hb4⟩
  have HB4 := Lib.hid (HB3.out.trans (hb4.mono HB3.out.size))
  have HM4 := Lib.hid ((HB4.out.cell (p := ⟨0, 0, none⟩) (World.block_lt_of_cell? _ _ HMX.out)).trans HMX.out)
  have HO2 := Lib.hid (HO1.out.below hb4)
  clear hb4 HO1
  go_wp2_with fail
  refine (C3.out _ HM4.out).mono ?_
  rintro e w5 ⟨v3, L3, rfl, _, _, hb5⟩
  have HB5 := Lib.hid (HB4.out.trans (hb5.mono HB4.out.size))
  have ha1 := (HO2.out.below hb5).at'
  rw [HL1.out] at ha1
  have HA1 := Lib.hid ha1
  clear hb5 HO2 ha1
  go_wp2_with fail
  refine (sameMaps_any _ _ l _ _ _ HA1.out (HM.out.below HB5.out)).mono ?_
  rintro e w6 ⟨rfl, hb6⟩
  have HB6 := Lib.hid (HB5.out.trans (hb6.mono HB5.out.size))
  clear hb6
  go_wp2_with fail
  go_ret
  exact ⟨rfl, HB6.out⟩
end Go.Proofs.YtlcdhlfkffkifaaDoor

/-
  YtlcdhlfkffkifaaDoor: the statement PartitionmapReturns: for every input the law returns true. No condition beside the row's own.
-/
namespace Go.Proofs.YtlcdhlfkffkifaaDoor.partitionmapReturns
open Go.ChangeShapes Go.WideShapes Go.ChangeAt Go.RowKit
open Go.ChangeMaps (open_string shut_string)
set_option linter.unusedVariables false

set_option maxRecDepth 100000 in
theorem contract (H : Type) (enc : TypeId × Value → H) (W : World) (base : Nat) (args : Array Value) (ds gs : List (DataW H)) (before : List MemPlace)
    (hval : ∀ (j : Nat) t v, Tryd.f3.params[j]? = some t → args[j]? = some v → Value.okWide Tryd.prog W .any base t v)
    (hW : DataW.Whole enc Tryd.prog Tryd.f3.params.toList Rows.partitionmapReturnsSpec.vars false W args.toList ds gs before) (hL : laidMetH Tryd.prog Rows.partitionmapReturnsRow.laid W) (hSh : W.ShapedOpen Tryd.prog) :
    Calls Tryd.prog 3 args W fun e W' => ∃ v, e = .returned v ∧ Rows.partitionmapReturnsSpec.post enc Tryd.prog Tryd.f3 false true false false W args v W' := by
  have hW' := hW
  obtain ⟨p, q, hA0, hV, rfl, hfz, hnd⟩ := hW
  have hA : DataW.TrodAll enc Tryd.prog W 0 (fun _ => true) true Tryd.f3.params.toList args.toList ds p := hA0
  rw [Tryd.params3] at hA hval
  obtain ⟨v0, vs0, d0, ds0, p0, q0, hargs, rfl, rfl, h0, r0⟩ := trodAll_cons hA
  obtain ⟨rfl, rfl, rfl⟩ := trodAll_nil r0
  obtain rfl : args = #[v0] := by cases args; simp_all
  obtain ⟨rfl, rfl⟩ := trodVars_none hV
  have h0k := h0
  obtain ⟨l0, T0, hm0⟩ := Frame.open_pms W v0 d0 p0 (hval 0 22 v0 rfl rfl) h0
  have hlt0 : ∀ x ∈ p0, x.block < W.heap.size := fun x hx => by simpa using hW'.lt x (by simp [hx])
  clear hA0
  refine (lawReturns_any v0 l0 T0 W hm0 (Frame.maxlen hSh)).mono fun e W' ⟨he, bel⟩ => ?_
  subst he
  exact ⟨_, rfl, _, _, _, [], _, [], hW', trodAll_mk1 (shut_bool Tryd.underlying4 _), (trodAll_cons_mk (Below.trod Frame.laidOut (by kernel_rfl) (of_decide_eq_true (by kernel_rfl)) h0k bel hlt0) trodAll_mk0), rfl, bel.frame _, fun h => by cases h⟩

theorem laid_met (os : Os) : laidMet Tryd.prog Rows.partitionmapReturnsRow.laid ((Frame.world os).forCall (fun _ _ => 0) ⟨#[], #[.slice none 0 0], []⟩).memory :=
  laidMet_of_run' 8 (by kernel_rfl) (by kernel_rfl)
theorem reads (os : Os) {H : Type} (enc : TypeId × Value → H) : ∃ places, DataW.whole enc Tryd.prog ((Frame.world os).forCall (fun _ _ => 0) ⟨#[], #[.slice none 0 0], []⟩).memory Tryd.f3.params.toList Rows.partitionmapReturnsSpec.vars false (#[.slice none 0 0] : Array Value).toList 8 = some ([.nil], [], places) :=
  ⟨[], by kernel_rfl⟩

set_option maxRecDepth 100000 in
theorem lifted (os : Os) (started : os.Started) (H : Type) (enc : TypeId × Value → H) (F : Stop.Interp) :
    ReturnsInHanded {} Tryd.checked os 3 .any ((OpenSpec.ofChange Rows.partitionmapReturnsSpec).preRow enc Tryd.prog Tryd.f3 Rows.partitionmapReturnsRow.domain false Rows.partitionmapReturnsRow.laid) (((OpenSpec.ofChange Rows.partitionmapReturnsSpec).at F).post enc Tryd.prog Tryd.f3 false true false false) := by
  obtain ⟨places, hx⟩ := reads os enc
  refine returnsInHanded_of_row (C := Tryd.checked) (s := OpenSpec.ofChange Rows.partitionmapReturnsSpec) Frame.own started (by kernel_rfl) Tryd.func3
    (witness_row_at (enc := enc) (C := Tryd.checked) false (Frame.world os) #[.slice none 0 0] rfl (by kernel_rfl) (by kernel_rfl) (by kernel_rfl)
      (OpenSpec.preRow_of_cond 8 hx (by kernel_rfl) (fun k hk => by cases hk) (by kernel_rfl) (laid_met os))) ?_
  intro W base args ds gs before hval hW _ _ _ hL hSh _
  exact contract H enc W base args ds gs before hval hW hL hSh

theorem said : Rows.PartitionmapReturnsSaid :=
  OpenClaim.holds_of_cond 3 Tryd.f3 rfl rfl rfl rfl rfl rfl rfl ⟨rfl, rfl, rfl, rfl, rfl⟩ rfl rfl rfl rfl rfl (by kernel_rfl) Tryd.func3 (by kernel_rfl)
    (of_decide_eq_true (by kernel_rfl)) (by unfold Func.isWrapper; first | (rw [if_pos (by decide +kernel)]; kernel_rfl) | (rw [if_neg (by decide +kernel)]; exact ⟨rfl, rfl⟩))
    (fun os started H enc _ F => by rw [OpenClaim.pre_eq_preRow]; exact lifted os started H enc F)

/-- No parameter wants a stand-in; the program's own looks are off: what the card asks. -/
theorem plain (f : FuncId) (fn : Func) (hf : Tryd.pinned.checked.prog.funcNamed "masterdisc/masterdisclaw37.PartitionmapReturns" = some f) (hfn : Tryd.pinned.checked.prog.funcs[f]? = some fn) :
    false = Tryd.pinned.checked.prog.looks [] ∧ ∀ (j : Nat) t, fn.params[j]? = some t → Tryd.pinned.checked.prog.wantsStandIn t = false := by
  obtain rfl : f = 3 := Option.some.inj ((show Tryd.prog.funcNamed "masterdisc/masterdisclaw37.PartitionmapReturns" = some 3 by kernel_rfl).symm.trans hf) |>.symm
  obtain rfl : fn = Tryd.f3 := (Option.some.inj (Tryd.func3.symm.trans hfn)).symm
  refine ⟨by kernel_rfl, fun j t ht => ?_⟩
  rw [Tryd.params3] at ht
  have hm := Array.mem_of_getElem? ht
  simp only [List.mem_toArray, List.mem_cons, List.not_mem_nil, or_false] at hm
  subst hm
  exact (show Tryd.prog.wantsStandIn 22 = false by kernel_rfl)

/-- ████ THE CARD ████ -/
theorem card : Rows.PartitionmapReturnsCardSaid :=
  Claim7.holds_tied_plain_at .later [] _ _ _ _ said (fun _ h => by cases h) (by kernel_rfl) (fun _ h => by cases h) partitionmapReturns_row_tie rfl ⟨rfl, rfl⟩ (by kernel_rfl) rfl plain (by kernel_rfl)
#print axioms card
end Go.Proofs.YtlcdhlfkffkifaaDoor.partitionmapReturns
