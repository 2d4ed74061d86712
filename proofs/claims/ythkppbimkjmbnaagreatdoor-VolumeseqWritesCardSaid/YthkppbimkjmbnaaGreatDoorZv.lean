/-
  The walk through the reference's Sequence.
-/
import Derived.Test.YthkppbimkjmbnaaGreatDoorZu
import Derived.Test.YthkppbimkjmbnaaGreatDoorZg
import Derived.Test.YthkppbimkjmbnaaGreatDoorZs
namespace Go.Proofs.YthkppbimkjmbnaaGreatDoor
set_option linter.unusedVariables false
open Go.RowKit
open Vs (bs by_)
/-- A load yields the same in each world of a class. -/
theorem yields_load2 {P : Program} {S : World → Prop} {a : Act} {o : Oper} (ty : TypeId) (x : Operand) (ho : o.op = .load ty x) (g f : Nat) (hx : a.eval x = .pointer (some ⟨g, f, none⟩)) (v : Value) (hl : ∀ W, S W → (loadVar ty ⟨g, f, none⟩).run P W = .ok v W) :
    ∀ W, S W → (execOp a.eval o).run P W = .ok (Next.value v) W := fun W h => by
  unfold execOp
  simp only [ho, hx, Instr.loadAt, Instr.sureAddr, Sem.run_bind, Sem.run_pure, Result.andThen_ok, hl W h]
namespace Vs
/-- The identifiers and the bodies of a sequence's descriptors. -/
def idS : List Int := [1, 5, 6, 7, 8]
def bodyS (d : D) : List ByteArray := [bs (primL d.vol), bs (partL d.part), bs (logL d), bs unalL, bs (z 496)]
theorem seqL_take (d : D) (loc i : Nat) (h : i < 16) : (seqL d loc).take (i + 1) = (seqL d loc).take i ++ [(seqL d loc).getD i ⟨#[]⟩] := by
  have hl : (seqL d loc).length = 16 := rfl
  rw [List.take_add_one, List.getElem?_eq_getElem (by omega), List.getD_eq_getElem?_getD, List.getElem?_eq_getElem (by omega)]
  rfl
theorem seqL_tail (d : D) (loc i : Nat) (h : i < 16) (h5 : 5 ≤ i) : (seqL d loc).getD i ⟨#[]⟩ = bs (z 2048) := by
  have hc : i = 5 ∨ i = 6 ∨ i = 7 ∨ i = 8 ∨ i = 9 ∨ i = 10 ∨ i = 11 ∨ i = 12 ∨ i = 13 ∨ i = 14 ∨ i = 15 := by omega
  rcases hc with rfl | rfl | rfl | rfl | rfl | rfl | rfl | rfl | rfl | rfl | rfl <;> rfl
theorem idS_at {i : Nat} (h : i < 5) : (Kit.izs idS)[i]? = some (.int .i64 (idS.getD i 0)) := by
  have hc : i = 0 ∨ i = 1 ∨ i = 2 ∨ i = 3 ∨ i = 4 := by omega
  rcases hc with rfl | rfl | rfl | rfl | rfl <;> rfl
theorem bodyS_at (d : D) {i : Nat} (h : i < 5) : (strs (bodyS d))[i]? = some (.string ((bodyS d).getD i ⟨#[]⟩)) := by
  have hc : i = 0 ∨ i = 1 ∨ i = 2 ∨ i = 3 ∨ i = 4 := by omega
  rcases hc with rfl | rfl | rfl | rfl | rfl <;> rfl
/-- The reference's Block of each descriptor. -/
theorem refBlock (d : D) (h : okD d = true) {loc : Nat} (hl : loc ≤ 4294967280) {i : Nat} (hi : i < 5) (w : World) :
    Calls Tryz.prog 50 #[.int .i64 (idS.getD i 0), .int .i64 1, .int .i64 ((loc : Int) + (i : Int)), .string ((bodyS d).getD i ⟨#[]⟩)] w fun e w' => e = .returned (.tuple #[.string ((seqL d loc).getD i ⟨#[]⟩), .int .i64 0]) ∧ Below w.heap.size w w' := by
  obtain ⟨k1, k2, k3, k4⟩ := okL_of h
  have go : ∀ (id k : Nat) (body : List UInt8), body.length ≤ 2032 → id < 65536 → k < 10 → Calls Tryz.prog 50 #[.int .i64 (id : Int), .int .i64 1, .int .i64 ((loc : Int) + (k : Int)), .string (bs body)] w fun e w' => e = .returned (.tuple #[.string (bs (blk id 1 (loc + k) body)), .int .i64 0]) ∧ Below w.heap.size w w' := fun id k body hb hid hk => by
    have hB := r31Block_any (id : Int) 1 ((loc : Int) + (k : Int)) (bs body) w (by rw [bs_size]; omega)
    have hR : blockR (id : Int) 1 ((loc : Int) + (k : Int)) body = (blk id 1 (loc + k) body, 0) := by
      rw [show (loc : Int) + (k : Int) = ((loc + k : Nat) : Int) by omega]
      exact blockR_ok (id := id) (ser := 1) hid (by decide) (by omega) hb
    rw [by_bs, hR] at hB
    simp only [] at hB
    exact hB
  have hc : i = 0 ∨ i = 1 ∨ i = 2 ∨ i = 3 ∨ i = 4 := by omega
  rcases hc with rfl | rfl | rfl | rfl | rfl
  · have e1 : (seqL d loc).getD 0 ⟨#[]⟩ = bs (blk 1 1 (loc + 0) (primL d.vol)) := rfl
    have e2 : (bodyS d).getD 0 ⟨#[]⟩ = bs (primL d.vol) := rfl
    have e3 : idS.getD 0 0 = ((1 : Nat) : Int) := rfl
    rw [e1, e2, e3]
    exact go 1 0 _ (by omega) (by decide) (by decide)
  · have e1 : (seqL d loc).getD 1 ⟨#[]⟩ = bs (blk 5 1 (loc + 1) (partL d.part)) := rfl
    have e2 : (bodyS d).getD 1 ⟨#[]⟩ = bs (partL d.part) := rfl
    have e3 : idS.getD 1 0 = ((5 : Nat) : Int) := rfl
    rw [e1, e2, e3]
    exact go 5 1 _ (by omega) (by decide) (by decide)
  · have e1 : (seqL d loc).getD 2 ⟨#[]⟩ = bs (blk 6 1 (loc + 2) (logL d)) := rfl
    have e2 : (bodyS d).getD 2 ⟨#[]⟩ = bs (logL d) := rfl
    have e3 : idS.getD 2 0 = ((6 : Nat) : Int) := rfl
    rw [e1, e2, e3]
    exact go 6 2 _ (by omega) (by decide) (by decide)
  · have e1 : (seqL d loc).getD 3 ⟨#[]⟩ = bs (blk 7 1 (loc + 3) (unalL)) := rfl
    have e2 : (bodyS d).getD 3 ⟨#[]⟩ = bs (unalL) := rfl
    have e3 : idS.getD 3 0 = ((7 : Nat) : Int) := rfl
    rw [e1, e2, e3]
    exact go 7 3 _ (by decide) (by decide) (by decide)
  · have e1 : (seqL d loc).getD 4 ⟨#[]⟩ = bs (blk 8 1 (loc + 4) (z 496)) := rfl
    have e2 : (bodyS d).getD 4 ⟨#[]⟩ = bs (z 496) := rfl
    have e3 : idS.getD 4 0 = ((8 : Nat) : Int) := rfl
    rw [e1, e2, e3]
    exact go 8 4 _ (by rw [z_len]; decide) (by decide) (by decide)
end Vs

set_option maxHeartbeats 12800000 in
set_option maxRecDepth 100000 in
/-- masterdiscref36.Sequence. -/
theorem r36Seq_any (d : Vs.D) (loc : Int) (w : World) (s1 : d.vol.name.size ≤ 9223372036854775807) (s2 : d.vol.set.size ≤ 9223372036854775807) (s3 : d.table.size ≤ 9223372036854775807) :
    Calls Tryz.prog 24 #[.agg (Vs.dC d), .int .i64 loc] w fun e w' => ∃ v, e = .returned (.tuple #[v, .int .i64 (Vs.seqE d loc)]) ∧ w'.ownsRow w.heap.size 9 1 v (Vs.seqR d loc).length (Vs.strs (Vs.seqR d loc)) ∧ Below w.heap.size w w' := by
  have HBc := Lib.hid ((Below.refl w.heap.size w).alloc (Nat.le_refl _) (.cells (Vs.dC d) 46))
  have HNc := Lib.hid (heap_alloc_new w (.cells (Vs.dC d) 46))
  have CV := Lib.hid (fun W => r36Valid_any d W s1 s2 s3)
  have HSE := Lib.hid (show Vs.seqE d loc = if (decide (0 ≤ loc) && decide (loc ≤ 4294967280)) = true then (if Vs.okD d = true then 0 else 1) else 2 from rfl)
  have HSR := Lib.hid (show Vs.seqR d loc = if Vs.seqE d loc = 0 then Vs.seqL d loc.toNat else [] from rfl)
  have HNIL := Lib.hid (fun (W : World) (b : Nat) => (show W.ownsRow b 9 1 (.slice none 0 0) ([] : List ByteArray).length (Vs.strs []) from ⟨rfl, Or.inl ⟨rfl, rfl⟩⟩))
  obtain ⟨Z, hZ⟩ : ∃ Z, Z = Vs.dC d := ⟨_, rfl⟩
  have HZ := Lib.hid hZ
  rw [← hZ] at HBc HNc CV ⊢
  clear hZ
  by_cases h0 : 0 ≤ loc
  case neg =>
    have he : Vs.seqE d loc = 2 := by rw [HSE.out, decide_eq_false h0]; rfl
    have hr : Vs.seqR d loc = [] := by rw [HSR.out, he]; rfl
    have HE := Lib.hid he
    have HR := Lib.hid hr
    have dd : decide (loc < 0) = true := decide_eq_true (by omega)
    clear he hr h0 HSE HSR CV
    go_enter Tryz.func24, Tryz.ntmps24
    go_wp2_with fail
    go_ret2
    rw [HE.out, HR.out]
    exact ⟨_, rfl, HNIL.out _ _, HBc.out⟩
  have dd : decide (loc < 0) = false := decide_eq_false (by omega)
  by_cases h1 : loc ≤ 4294967280
  case neg =>
    have he : Vs.seqE d loc = 2 := by rw [HSE.out, decide_eq_false h1, Bool.and_false]; rfl
    have hr : Vs.seqR d loc = [] := by rw [HSR.out, he]; rfl
    have HE := Lib.hid he
    have HR := Lib.hid hr
    have dd2 : decide (4294967280 < loc) = true := decide_eq_true (by omega)
    clear he hr h0 h1 HSE HSR CV
    go_enter Tryz.func24, Tryz.ntmps24
    go_wp2_with fail
    go_ret2
    rw [HE.out, HR.out]
    exact ⟨_, rfl, HNIL.out _ _, HBc.out⟩
  have dd2 : decide (4294967280 < loc) = false := decide_eq_false (by omega)
  have HSE1 := Lib.hid (show Vs.seqE d loc = if Vs.okD d = true then 0 else 1 by rw [HSE.out, decide_eq_true h0, decide_eq_true h1]; rfl)
  clear HSE
  cases hok : Vs.okD d with
  | false =>
    have he : Vs.seqE d loc = 1 := by rw [HSE1.out, hok]; rfl
    have hr : Vs.seqR d loc = [] := by rw [HSR.out, he]; rfl
    have HE := Lib.hid he
    have HR := Lib.hid hr
    rw [hok] at CV
    have HLD := Lib.hid (Vs.box_load d HZ.out HNc.out)
    clear he hr h0 h1 HSE1 HSR hok
    go_enter Tryz.func24, Tryz.ntmps24
    go_wp2_with (refine wpList_load_at 46 _ rfl w.heap.size 0 rfl _ (HLD.out) (by rfl) ?_)
    with_reducible refine (CV.out _).mono ?_
    rintro e w2 ⟨rfl, hb2⟩
    have HB2 := Lib.hid (HBc.out.trans (hb2.mono HBc.out.size))
    clear hb2
    go_wp2_with fail
    go_ret2
    rw [HE.out, HR.out]
    exact ⟨_, rfl, HNIL.out _ _, HB2.out⟩
  | true =>
  have he : Vs.seqE d loc = 0 := by rw [HSE1.out, hok]; rfl
  have hr : Vs.seqR d loc = Vs.seqL d loc.toNat := by rw [HSR.out, he]; rfl
  obtain ⟨N, rfl⟩ := Int.eq_ofNat_of_zero_le h0
  rw [Int.toNat_natCast] at hr
  have HE := Lib.hid he
  have HR := Lib.hid hr
  rw [hok] at CV
  have HLD := Lib.hid (Vs.box_load d HZ.out HNc.out)
  have hok3 := (Vs.okD_iff d).1 hok
  have hnt := Vs.named_text ((Vs.okLog_iff d).1 hok3.2.2).1
  have C1 := Lib.hid (fun W => r36Primary_any d.vol W hok3.1 hnt s1 s2)
  have C2 := Lib.hid (fun W => r36Partition_any d.part W hok3.2.1)
  have C3 := Lib.hid (fun W => r36Logical_any d W hok3.2.2 s1)
  have C4 := Lib.hid (fun W => r01_any 4 4 4 4 rfl rfl (by decide) (by decide) W)
  have C5 := Lib.hid (fun W => vZeros_any 4 (by decide) (by decide) W)
  rw [show (⟨(List.replicate (4 : Int).toNat 0).toArray⟩ : ByteArray) = bs (Vs.z 4) from rfl] at C5
  have C6 := Lib.hid (fun W => vZeros_any 496 (by decide) (by decide) W)
  rw [show (⟨(List.replicate (496 : Int).toNat 0).toArray⟩ : ByteArray) = bs (Vs.z 496) from rfl] at C6
  have C7 := Lib.hid (fun W => vZeros_any 2048 (by decide) (by decide) W)
  rw [show (⟨(List.replicate (2048 : Int).toNat 0).toArray⟩ : ByteArray) = bs (Vs.z 2048) from rfl] at C7
  have HUN := Lib.hid (show bs (Pm.le 4 4) ++ bs (Vs.z 4) = bs Vs.unalL from Vs.bs_app _ _)
  have zu1 : (bs (Pm.le 4 4)).size ≤ 4 := by rw [Vs.bs_size, Pm.le_len]; decide
  have zu2 : (bs (Vs.z 4)).size ≤ 4 := by rw [Vs.bs_size, Vs.z_len]; decide
  have HBY := Lib.hid (show Vs.bodyS d = [bs (Vs.primL d.vol), bs (Vs.partL d.part), bs (Vs.logL d), bs Vs.unalL, bs (Vs.z 496)] from rfl)
  have HCB := Lib.hid (fun i (hi : i < 5) W => Vs.refBlock d hok (loc := N) (by omega) hi W)
  have HTK := Lib.hid (fun i hi => Vs.seqL_take d N i hi)
  have HTL := Lib.hid (fun i hi h5 => Vs.seqL_tail d N i hi h5)
  have HBA := Lib.hid (fun i (hi : i < 5) => Vs.bodyS_at d hi)
  have hsl : (Vs.seqL d N).length = 16 := rfl
  have HSL := Lib.hid hsl
  have HCS := Lib.hid (fun (W : World) (g : Nat) (h : W.heap[g]? = some (.cells (Vs.dC d) 46 (0, 0))) => Vs.dC_cells d h)
  rw [← HZ.out] at HCS
  have HIA := Lib.hid (fun i (hi : i < 5) => Vs.idS_at hi)
  generalize Vs.bodyS d = BY at *
  rw [HE.out, HR.out]
  generalize Vs.seqL d N = SL at *
  generalize bs (Vs.primL d.vol) = t1 at *
  generalize bs (Vs.partL d.part) = t2 at *
  generalize bs (Vs.logL d) = t3 at *
  generalize bs Vs.unalL = t4 at *
  generalize bs (Vs.z 496) = t5 at *
  generalize bs (Vs.z 2048) = t6 at *
  generalize bs (Pm.le 4 4) = t7 at *
  generalize bs (Vs.z 4) = t8 at *
  have hadd : ¬ 9223372036854775807 < t7.size + t8.size := by omega
  clear he hr h0 zu1 zu2 HSE1 HSR hok hok3 hnt HE HR hsl HNIL
  obtain ⟨⟨v0, v1, v2, v3, v4, v5, v6, v7⟩, ⟨q0, q1, q2, q3, q4, q5⟩, mp, tb, fk, fl, fb, fp, si, ci⟩ := d
  simp only [Vs.volC, Vs.partC] at *
  simp only [Vs.dC] at C3
  go_enter Tryz.func24, Tryz.ntmps24
  go_wp2_with (refine wpList_load_at 46 _ rfl w.heap.size 0 rfl _ (HLD.out) (by rfl) ?_)
  with_reducible refine (CV.out _).mono ?_
  rintro e w2 ⟨rfl, hb2⟩
  have HB2 := Lib.hid (HBc.out.trans (hb2.mono HBc.out.size))
  have HN2 := Lib.hid ((hb2.block w.heap.size (Array.getElem?_eq_some_iff.1 HNc.out).1).trans HNc.out)
  clear hb2 CV HLD HBc HNc
  go_upto_region 6 with fail
  have HI0 := Lib.hid (heap_alloc_new w2 (.cells #[.int .i64 1, .int .i64 5, .int .i64 6, .int .i64 7, .int .i64 8] 3))
  have HAL := ((Below.refl w2.heap.size w2).alloc (Nat.le_refl _) (.cells #[.int .i64 1, .int .i64 5, .int .i64 6, .int .i64 7, .int .i64 8] 3))
  have HB3 := Lib.hid (HB2.out.trans (HAL.mono HB2.out.size))
  have HN3 := Lib.hid ((HAL.block w.heap.size (Array.getElem?_eq_some_iff.1 HN2.out).1).trans HN2.out)
  clear HAL HB2 HN2
  generalize w2.alloc (.cells #[.int .i64 1, .int .i64 5, .int .i64 6, .int .i64 7, .int .i64 8] 3) = wb at *
  generalize w2.heap.size = gi at *
  have HROW := Lib.hid (show ∀ W, Below wb.heap.size wb W → W.heap[w.heap.size]? = some (.cells #[.string v0, .string v1, .string v2, .string v3, .string v4, .int .i64 v5, .int .i64 v6, .int .i64 v7, .int .i64 q0, .int .i64 q1, .int .i64 q2, .int .i64 q3, .int .i64 q4, .int .i64 q5, .int .i64 mp, .string tb, .int .i64 fk, .int .i64 fl, .int .i64 fb, .int .i64 fp, .int .i64 si, .int .i64 ci] 46 (0, 0)) from fun W h => (h.block _ (Array.getElem?_eq_some_iff.1 HN3.out).1).trans (by have hn := HN3.out; rw [HZ.out] at hn; exact hn))
  have HLV := Lib.hid (show ∀ W, Below wb.heap.size wb W → (loadVar 38 ⟨w.heap.size, 0, none⟩).run Tryz.prog W = .ok (.agg #[.string v0, .string v1, .string v2, .string v3, .string v4, .int .i64 v5, .int .i64 v6, .int .i64 v7]) W from fun W h => load_row (P := Tryz.prog) (n := 8) 38 _ (HROW.out W h) Tryz.underlying38 rfl (by kernel_rfl) (show 0 + 8 ≤ 22 by decide))
  have HLP := Lib.hid (show ∀ W, Below wb.heap.size wb W → (loadVar 40 ⟨w.heap.size, 8, none⟩).run Tryz.prog W = .ok (.agg #[.int .i64 q0, .int .i64 q1, .int .i64 q2, .int .i64 q3, .int .i64 q4, .int .i64 q5]) W from fun W h => load_row (P := Tryz.prog) (n := 6) 40 _ (HROW.out W h) Tryz.underlying40 rfl (by kernel_rfl) (show 8 + 6 ≤ 22 by decide))
  have HLW := Lib.hid (show ∀ W, Below wb.heap.size wb W → (loadVar 46 ⟨w.heap.size, 0, none⟩).run Tryz.prog W = .ok (.agg #[.string v0, .string v1, .string v2, .string v3, .string v4, .int .i64 v5, .int .i64 v6, .int .i64 v7, .int .i64 q0, .int .i64 q1, .int .i64 q2, .int .i64 q3, .int .i64 q4, .int .i64 q5, .int .i64 mp, .string tb, .int .i64 fk, .int .i64 fl, .int .i64 fb, .int .i64 fp, .int .i64 si, .int .i64 ci]) W from fun W h => load_row (P := Tryz.prog) (n := 22) 46 _ (HROW.out W h) Tryz.underlying46 rfl (by kernel_rfl) (show 0 + 22 ≤ 22 by decide))
  clear HROW HCS HZ
  have HS0 := (show Below wb.heap.size wb wb.drew from (Below.refl _ _).drew)
  refine wp_region_held_drew (S := fun w' => Below wb.heap.size wb w') (by kernel_rfl) HS0 (fun _ => ?_)
  refine wpAnyH_take (i := 0) (v := .pointer (some ⟨w.heap.size, 0, none⟩)) rfl (by kernel_rfl) (by kernel_rfl) (by kernel_rfl) (fun _ _ _ h => h) (Or.inl ⟨by rfl, by intro w hSw; go_simp⟩) (by assumption) ?_
  try simp only [Act.put, List.setIfInBounds_toArray, List.set_cons_zero, List.set_cons_succ, List.getElem_toArray, List.getElem_cons_zero]
  refine wpAnyH_take (i := 1) (v := .agg #[.string v0, .string v1, .string v2, .string v3, .string v4, .int .i64 v5, .int .i64 v6, .int .i64 v7]) rfl (by kernel_rfl) (by kernel_rfl) (by kernel_rfl) (fun _ _ _ h => h) (Or.inl ⟨by rfl, yields_load2 38 _ rfl w.heap.size 0 rfl _ HLV.out⟩) (by assumption) ?_
  try simp only [Act.put, List.setIfInBounds_toArray, List.set_cons_zero, List.set_cons_succ, List.getElem_toArray, List.getElem_cons_zero, List.getElem_cons_succ]
  refine wpAnyH_take (i := 3) (v := .pointer (some ⟨w.heap.size, 8, none⟩)) rfl (by kernel_rfl) (by kernel_rfl) (by kernel_rfl) (fun _ _ _ h => h) (Or.inl ⟨by rfl, by intro w hSw; go_simp⟩) (by assumption) ?_
  try simp only [Act.put, List.setIfInBounds_toArray, List.set_cons_zero, List.set_cons_succ, List.getElem_toArray, List.getElem_cons_zero, List.getElem_cons_succ]
  refine wpAnyH_take (i := 4) (v := .agg #[.int .i64 q0, .int .i64 q1, .int .i64 q2, .int .i64 q3, .int .i64 q4, .int .i64 q5]) rfl (by kernel_rfl) (by kernel_rfl) (by kernel_rfl) (fun _ _ _ h => h) (Or.inl ⟨by rfl, yields_load2 40 _ rfl w.heap.size 8 rfl _ HLP.out⟩) (by assumption) ?_
  try simp only [Act.put, List.setIfInBounds_toArray, List.set_cons_zero, List.set_cons_succ, List.getElem_toArray, List.getElem_cons_zero, List.getElem_cons_succ]
  refine wpAnyH_take (i := 6) (v := .agg #[.string v0, .string v1, .string v2, .string v3, .string v4, .int .i64 v5, .int .i64 v6, .int .i64 v7, .int .i64 q0, .int .i64 q1, .int .i64 q2, .int .i64 q3, .int .i64 q4, .int .i64 q5, .int .i64 mp, .string tb, .int .i64 fk, .int .i64 fl, .int .i64 fb, .int .i64 fp, .int .i64 si, .int .i64 ci]) rfl (by kernel_rfl) (by kernel_rfl) (by kernel_rfl) (fun _ _ _ h => h) (Or.inl ⟨by rfl, yields_load2 46 _ rfl w.heap.size 0 rfl _ HLW.out⟩) (by assumption) ?_
  try simp only [Act.put, List.setIfInBounds_toArray, List.set_cons_zero, List.set_cons_succ, List.getElem_toArray, List.getElem_cons_zero, List.getElem_cons_succ]
  refine wpAnyH_ready (rs := [2]) (by kernel_rfl) (by simp) ?_
  refine AllReadyH.cons rfl (fun K hK => ?_) AllReadyH.nil
  go_simp
  with_reducible refine (C1.out _).mono ?_
  rintro e wa1 ⟨rfl, hb⟩
  have HS1 := (show Below wb.heap.size wb wa1 from HS0.trans (hb.mono HS0.size))
  refine hK.out _ _ HS1 (fun _ => ?_)
  clear hK K hb
  try simp only [Act.put, List.setIfInBounds_toArray, List.set_cons_zero, List.set_cons_succ, List.getElem_toArray, List.getElem_cons_zero, List.getElem_cons_succ]
  refine wpAnyH_ready (rs := [5]) (by kernel_rfl) (by simp) ?_
  refine AllReadyH.cons rfl (fun K hK => ?_) AllReadyH.nil
  go_simp
  with_reducible refine (C2.out _).mono ?_
  rintro e wa2 ⟨rfl, hb⟩
  have HS2 := (show Below wb.heap.size wb wa2 from HS1.trans (hb.mono HS1.size))
  refine hK.out _ _ HS2 (fun _ => ?_)
  clear hK K hb
  try simp only [Act.put, List.setIfInBounds_toArray, List.set_cons_zero, List.set_cons_succ, List.getElem_toArray, List.getElem_cons_zero, List.getElem_cons_succ]
  refine wpAnyH_ready (rs := [7]) (by kernel_rfl) (by simp) ?_
  refine AllReadyH.cons rfl (fun K hK => ?_) AllReadyH.nil
  go_simp
  with_reducible refine (C3.out _).mono ?_
  rintro e wa3 ⟨rfl, hb⟩
  have HS3 := (show Below wb.heap.size wb wa3 from HS2.trans (hb.mono HS2.size))
  refine hK.out _ _ HS3 (fun _ => ?_)
  clear hK K hb
  try simp only [Act.put, List.setIfInBounds_toArray, List.set_cons_zero, List.set_cons_succ, List.getElem_toArray, List.getElem_cons_zero, List.getElem_cons_succ]
  refine wpAnyH_ready (rs := [8]) (by kernel_rfl) (by simp) ?_
  refine AllReadyH.cons rfl (fun K hK => ?_) AllReadyH.nil
  go_simp
  with_reducible refine (C4.out _).mono ?_
  rintro e wa4 ⟨rfl, hb⟩
  have HS4 := (show Below wb.heap.size wb wa4 from HS3.trans (hb.mono HS3.size))
  refine hK.out _ _ HS4 (fun _ => ?_)
  clear hK K hb
  try simp only [Act.put, List.setIfInBounds_toArray, List.set_cons_zero, List.set_cons_succ, List.getElem_toArray, List.getElem_cons_zero, List.getElem_cons_succ]
  refine wpAnyH_ready (rs := [9]) (by kernel_rfl) (by simp) ?_
  refine AllReadyH.cons rfl (fun K hK => ?_) AllReadyH.nil
  go_simp
  with_reducible refine (C5.out _).mono ?_
  rintro e wa5 ⟨rfl, hb⟩
  have HS5 := (show Below wb.heap.size wb wa5 from HS4.trans (hb.mono HS4.size))
  refine hK.out _ _ HS5 (fun _ => ?_)
  clear hK K hb
  try simp only [Act.put, List.setIfInBounds_toArray, List.set_cons_zero, List.set_cons_succ, List.getElem_toArray, List.getElem_cons_zero, List.getElem_cons_succ]
  refine wpAnyH_take (i := 10) (v := .string (t7 ++ t8)) rfl (by kernel_rfl) (by kernel_rfl) (by kernel_rfl) (fun _ _ _ h => h) (Or.inl ⟨by rfl, by intro w hSw; go_simp⟩) (by assumption) ?_
  try simp only [Act.put, List.setIfInBounds_toArray, List.set_cons_zero, List.set_cons_succ, List.getElem_toArray, List.getElem_cons_zero, List.getElem_cons_succ]
  refine wpAnyH_ready (rs := [11]) (by kernel_rfl) (by simp) ?_
  refine AllReadyH.cons rfl (fun K hK => ?_) AllReadyH.nil
  go_simp
  with_reducible refine (C6.out _).mono ?_
  rintro e wa6 ⟨rfl, hb⟩
  have HS6 := (show Below wb.heap.size wb wa6 from HS5.trans (hb.mono HS5.size))
  refine hK.out _ _ HS6 (fun _ => ?_)
  clear hK K hb
  try simp only [Act.put, List.setIfInBounds_toArray, List.set_cons_zero, List.set_cons_succ, List.getElem_toArray, List.getElem_cons_zero, List.getElem_cons_succ]
  refine wpAnyH_ready (rs := [12]) (by kernel_rfl) (by simp) ?_
  refine AllReadyH.cons rfl (fun K hK => ?_) AllReadyH.nil
  go_simp
  have HS7 := (show Below wb.heap.size wb (wa6.alloc (.cells #[.string t1, .string t2, .string t3, .string (t7 ++ t8), .string t5] 9)) from HS6.alloc HS6.size _)
  refine hK.out _ _ HS7 (fun _ => ?_)
  clear hK K
  try simp only [Act.put, List.setIfInBounds_toArray, List.set_cons_zero, List.set_cons_succ, List.getElem_toArray, List.getElem_cons_zero, List.getElem_cons_succ]
  refine wpAnyH_take (i := 13) (v := .slice (some ⟨wa6.heap.size, 0, none⟩) 5 5) rfl (by kernel_rfl) (by kernel_rfl) (by kernel_rfl) (fun _ _ _ h => h) (Or.inl ⟨by rfl, by intro w hSw; go_simp⟩) (by assumption) ?_
  try simp only [Act.put, List.setIfInBounds_toArray, List.set_cons_zero, List.set_cons_succ, List.getElem_toArray, List.getElem_cons_zero, List.getElem_cons_succ]
  refine wpAnyH_done (by kernel_rfl) ?_ _
  go_upto_region 7 with fail
  have HB6 := Lib.hid (HB3.out.trans (HS7.mono HB3.out.size))
  have HI6 := Lib.hid ((HS7.block gi (Array.getElem?_eq_some_iff.1 HI0.out).1).trans HI0.out)
  have HY6 := Lib.hid (heap_alloc_new wa6 (.cells #[.string t1, .string t2, .string t3, .string (t7 ++ t8), .string t5] 9))
  rw [HUN.out] at HY6 HB6 HI6 ⊢
  clear HS0 HS1 HS2 HS3 HS4 HS5 HS6 HS7 HB3 HN3 HI0 HLV HLP HLW HUN hadd C1 C2 C3 C4 C5 C6
  generalize wa6.alloc (.cells #[.string t1, .string t2, .string t3, .string t4, .string t5] 9) = w6 at *
  generalize wa6.heap.size = gy at *
  have HSN := Lib.hid (Vs.SR.nil w6)
  go_wp2_with fail
  go_loopw [8, 9] (fun ov iv wr => ∃ i : Nat, i ≤ 16 ∧ iv = .int .i64 i ∧ Hid (Vs.SR w6 wr ov (SL.take i))) (fun _ iv _ => 16 - (intOf iv).toNat)
  case atStart => exact ⟨0, by omega, rfl, HSN⟩
  case round =>
    clear HSN
    obtain ⟨i, hi, rfl, HS⟩ := hrel
    have hll : (SL.take i).length ≤ 1000 := by rw [List.length_take]; omega
    by_cases h16 : i < 16
    case neg =>
      obtain rfl : i = 16 := by omega
      have HT16 := Lib.hid (show SL.take 16 = SL from List.take_of_length_le (by rw [HSL.out]; decide))
      go_wp2_with fail
      go_ret2
      have ho := HS.out.own
      rw [HT16.out] at ho
      exact ⟨_, rfl, Kit.own_base ho HB6.out.size, HB6.out.trans (HS.out.bel.mono HB6.out.size)⟩
    have HT := Lib.hid (HTK.out i h16)
    by_cases h5 : i < 5
    · have hci := cell_of_row _ _ i _ _ _ ((HS.out.bel.block gi (Array.getElem?_eq_some_iff.1 HI6.out).1).trans HI6.out)
      have hcb := cell_of_row _ _ i _ _ _ ((HS.out.bel.block gy (Array.getElem?_eq_some_iff.1 HY6.out).1).trans HY6.out)
      have hl1 : gi < wr.heap.size := Nat.lt_of_lt_of_le (Array.getElem?_eq_some_iff.1 HI6.out).1 HS.out.bel.size
      have hl2 : gy < wr.heap.size := Nat.lt_of_lt_of_le (Array.getElem?_eq_some_iff.1 HY6.out).1 HS.out.bel.size
      rw [List.getElem?_toArray] at hci hcb
      have ea : ([.int .i64 1, .int .i64 5, .int .i64 6, .int .i64 7, .int .i64 8] : List Value)[i]? = some (.int .i64 (Vs.idS.getD i 0)) := HIA.out i h5
      have eb : ([.string t1, .string t2, .string t3, .string t4, .string t5] : List Value)[i]? = some (.string (BY.getD i ⟨#[]⟩)) := by
        have h := HBA.out i h5
        rw [HBY.out] at h ⊢
        exact h
      rw [ea] at hci
      rw [eb] at hcb
      have CB := Lib.hid (HCB.out i h5)
      have hi5 : (i : Int) < 5 := by omega
      clear ea eb HCB HTK HTL HBA HIA HBY h5 h16
      generalize Vs.idS.getD i 0 = idv at *
      generalize BY.getD i ⟨#[]⟩ = bv at *
      generalize SL.getD i ⟨#[]⟩ = sv at *
      have y0 := fun x : Later wr.heap.size wr => later_cell x hl1 hci
      have y1 := fun x : Later wr.heap.size wr => later_cell x hl2 hcb
      go_wp2_with fail
      refine wp_region_later wr.heap.size (by kernel_rfl) (by kernel_rfl) ?_
      repeat (any_goals (first | go_big_quiet_skip | (go_big_quiet_want; go_big_quiet_op; first | go_big_quiet_on | (apply Exists.intro; refine ⟨fun _ => ?_, ?_⟩; (with_reducible refine Calls.later_of ?_ (CB.out _); exact Nat.le_refl _); go_big_quiet_on))))
      refine wpQuiet_nil ?_
      intro wy hw'
      obtain ⟨⟨wz, hbq⟩, hw''⟩ := hw'
      subst hw''
      have HS2 := Lib.hid (HS.out.below hbq)
      clear hbq y0 y1 hci hcb hl1 hl2
      go_wp2_with (at_builtin; refine HS2.out.app hll sv rfl _ _ rfl rfl rfl ?_)
      intro v' w3 hs3
      have HS3 := Lib.hid hs3
      clear hs3
      go_wp2_with fail
      go_roundw
      case rel => exact ⟨i + 1, by omega, by go_num, by rw [HT.out]; exact HS3⟩
      case measure => simp [intOf]; omega
    · have hsv := HTL.out i h16 (by omega)
      rw [hsv] at HT
      have hi5 : ¬ (i : Int) < 5 := by omega
      clear HCB HTK HTL HBA HIA HBY hsv
      go_wp2_with fail
      with_reducible refine (C7.out _).mono ?_
      rintro e w2x ⟨rfl, hbq⟩
      have HS2 := Lib.hid (HS.out.below hbq)
      clear hbq
      go_wp2_with (at_builtin; refine HS2.out.app hll t6 rfl _ _ rfl rfl rfl ?_)
      intro v' w3 hs3
      have HS3 := Lib.hid hs3
      clear hs3
      go_wp2_with fail
      go_roundw
      case rel => exact ⟨i + 1, by omega, by go_num, by rw [HT.out]; exact HS3⟩
      case measure => simp [intOf]; omega
end Go.Proofs.YthkppbimkjmbnaaGreatDoor

/-
  The walk through VolumeseqWrites.
-/
namespace Go.Proofs.YthkppbimkjmbnaaGreatDoor
set_option linter.unusedVariables false
open Go.RowKit Go.Maps
open Vs (bs by_)

set_option maxHeartbeats 12800000 in
set_option maxRecDepth 100000 in
/-- VolumeseqWrites. -/
theorem lawWrites_any (d : Vs.D) (loc : Int) (w : World) (m : Int) (hT : Lib.Utf8Tabs 1 2 w) (hM : w.cell? ⟨0, 0, none⟩ = some (.int .i64 m)) :
    Calls Tryz.prog 4 #[.agg (Vs.dC d), .int .i64 loc] w fun e w' => e = .returned (.bool true) ∧ Below w.heap.size w w' := by
  have HT := Lib.hid hT
  have HM := Lib.hid hM
  have CA := Lib.hid (fun W h1 h2 => awake_any W m h1 h2)
  have CF := Lib.hid (fun W => few_any d W)
  have HFI := Lib.hid (Vs.fewB_iff d)
  have HB0 := Lib.hid ((Below.refl w.heap.size w).alloc (Nat.le_refl _) (.cells (Vs.dC d) 46))
  have HN0 := Lib.hid (heap_alloc_new w (.cells (Vs.dC d) 46))
  have CS := Lib.hid (fun W h a b c => seq_any d loc W h a b c)
  have CR := Lib.hid (fun W a b c => r36Seq_any d loc W a b c)
  have hl16 : (Vs.seqR d loc).length ≤ 1000 := by
    unfold Vs.seqR
    split
    · exact (by decide : (16 : Nat) ≤ 1000)
    · simp
  have CE := Lib.hid (fun v1 v2 W h1 h2 => eqStrs_any v1 v2 (Vs.seqR d loc) W h1 h2 hl16)
  obtain ⟨Z, hZ⟩ : ∃ Z, Z = Vs.dC d := ⟨_, rfl⟩
  have HZD := Lib.hid hZ
  rw [← hZ] at CF HB0 HN0 CS CR
  rw [← hZ]
  generalize Vs.seqR d loc = SL at *
  generalize Vs.seqE d loc = E at *
  clear hT hM hZ hl16
  go_enter Tryz.func4, Tryz.ntmps4
  go_wp2_with fail
  generalize w.alloc (.cells Z 46) = w0 at *
  with_reducible refine (CA.out _ (Kit.tabs_below HT.out HB0.out) ((HB0.out.cell (p := ⟨0, 0, none⟩) (World.block_lt_of_cell? _ _ HM.out)).trans HM.out)).mono ?_
  rintro e w1 ⟨rfl, hb1⟩
  have HB1 := Lib.hid (HB0.out.trans (hb1.mono HB0.out.size))
  have HN1 := Lib.hid ((hb1.block w.heap.size (Array.getElem?_eq_some_iff.1 HN0.out).1).trans HN0.out)
  have HL1 := Lib.hid (Vs.box_load d HZD.out HN1.out)
  clear hb1 HB0 HN0 CA
  go_wp2_with (refine wpList_load_at 46 _ rfl w.heap.size 0 rfl _ (HL1.out) (by rfl) ?_)
  with_reducible refine (CF.out _).mono ?_
  rintro e w2 ⟨rfl, hb2⟩
  have HB2 := Lib.hid (HB1.out.trans (hb2.mono HB1.out.size))
  have HN2 := Lib.hid ((hb2.block w.heap.size (Array.getElem?_eq_some_iff.1 HN1.out).1).trans HN1.out)
  have HL2 := Lib.hid (Vs.box_load d HZD.out HN2.out)
  clear hb2 HB1 HN1 HL1 CF
  cases hfew : Vs.fewB d with
  | false =>
    rw [hfew] at *
    go_wp2_with fail
    go_ret
    exact ⟨rfl, HB2.out⟩
  | true =>
    obtain ⟨a1, a2, a3⟩ := HFI.out.1 hfew
    have CS2 := Lib.hid (fun W h => CS.out W h (by omega) (by omega) (by omega))
    have CR2 := Lib.hid (fun W => CR.out W (by omega) (by omega) (by omega))
    clear CS CR a1 a2 a3 HFI
    rw [hfew] at *
    go_wp2_with (refine wpList_load_at 46 _ rfl w.heap.size 0 rfl _ (HL2.out) (by rfl) ?_)
    with_reducible refine (CS2.out _ (Kit.tabs_below HT.out HB2.out)).mono ?_
    rintro e w3 ⟨v, rfl, ho3, hb3⟩
    have HB3 := Lib.hid (HB2.out.trans (hb3.mono HB2.out.size))
    have HN3 := Lib.hid ((hb3.block w.heap.size (Array.getElem?_eq_some_iff.1 HN2.out).1).trans HN2.out)
    have HL3 := Lib.hid (Vs.box_load d HZD.out HN3.out)
    have HR3 := Lib.hid (Kit.Row.of_own ho3)
    clear hb3 ho3 HB2 HN2 HL2
    go_wp2_with (refine wpList_load_at 46 _ rfl w.heap.size 0 rfl _ (HL3.out) (by rfl) ?_)
    with_reducible refine (CR2.out _).mono ?_
    rintro e w4 ⟨v2, rfl, ho4, hb4⟩
    have HB4 := Lib.hid (HB3.out.trans (hb4.mono HB3.out.size))
    have HR4 := Lib.hid (Kit.Row.of_own ho4)
    have HR34 := Lib.hid (HR3.out.below hb4)
    clear hb4 ho4 HB3 HN3 HL3 HR3
    go_wp2_with fail
    with_reducible refine (CE.out _ _ _ HR34.out HR4.out).mono ?_
    rintro e w5 ⟨rfl, hb5⟩
    have HB5 := Lib.hid (HB4.out.trans (hb5.mono HB4.out.size))
    clear hb5
    go_wp2_with fail
    go_ret
    exact ⟨rfl, HB5.out⟩
end Go.Proofs.YthkppbimkjmbnaaGreatDoor
