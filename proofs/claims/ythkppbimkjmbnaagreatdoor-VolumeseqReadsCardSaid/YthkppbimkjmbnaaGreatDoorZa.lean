/-
  The law's example: its descriptors; slices.Equal of rows that read alike.
-/
import Derived.Test.YthkppbimkjmbnaaGreatDoorZZ
namespace Go.Proofs.YthkppbimkjmbnaaGreatDoor
open Go.RowKit Go.Maps
open Vs (bs by_)
/-- One struct in a cell, as a result. -/
theorem res_c {P : Program} {fn : Func} {p : Tmp} {ty : TypeId} (h : fn.results = #[.cell p ty]) (tmps : Array Value) (w : World) (g : Nat) (t : TypeId) (cs : Array Value) (fr : Nat × Nat) (d : TypeDesc)
    (hp : tmps.getD p undef = .pointer (some ⟨g, 0, none⟩)) (hg : w.heap[g]? = some (.cells cs t fr))
    (hu : P.underlying ty = some d) (hd : (match d with | .struct _ | .array _ _ => true | _ => false) = true) (hi : (P.info? ty).map (·.size) = some cs.size) :
    (results fn tmps).run P w = .ok (.agg cs) w := by
  have hp' : tmps[p]?.getD undef = .pointer (some ⟨g, 0, none⟩) := by simpa using hp
  simp [results, h, hp', asAddr, run_loadVar_row w g t ty cs fr d hg hu hd hi]
theorem equalI_same (v1 v2 : Value) (zs : List Int) (w : World) (h1 : Kit.Row w v1 (Kit.izs zs)) (h2 : Kit.Row w v2 (Kit.izs zs)) :
    Calls Tryz.prog 19 #[v1, v2] w fun e w' => e = .returned (.bool true) ∧ Below w.heap.size w w' := by
  obtain ⟨A, c, rfl, _, hm1, h1⟩ := h1
  obtain ⟨B, d, rfl, _, hm2, h2⟩ := h2
  rw [Kit.izs_length] at *
  unfold maxLen at hm1 hm2
  by_cases h0 : 0 < zs.length
  · obtain ⟨b1, o1, rfl, _, c1⟩ := h1 h0
    obtain ⟨b2, o2, rfl, _, c2⟩ := h2 h0
    refine (Tryz.slices_Equal_int b1 o1 zs.length c b2 o2 zs.length d zs zs w (Nat.le_refl _) (Nat.le_refl _) (by omega) (by omega) (fun j hj => c1 j _ (by simp [Kit.izs, List.getD, hj])) (fun j hj => c2 j _ (by simp [Kit.izs, List.getD, hj]))).mono ?_
    rintro e w' ⟨rfl, q, rfl⟩
    exact ⟨by simp, Kit.Below.drewN (Below.refl _ _) q⟩
  · have e0 : zs.length = 0 := by omega
    rw [e0]
    refine (Tryz.slices_Equal_int_empty A B c 0 d w (by decide)).mono ?_
    rintro e w' ⟨rfl, rfl⟩
    exact ⟨rfl, Below.refl _ _⟩
namespace Vs
theorem seqL_size {d : D} (h : okD d = true) (loc : Nat) : ∀ b ∈ seqL d loc, b.size = 2048 := by
  obtain ⟨k1, k2, k3, k4⟩ := okL_of h
  intro b hb
  unfold seqL at hb
  rw [List.mem_append] at hb
  rcases hb with hb | hb
  · simp only [List.mem_cons, List.not_mem_nil, or_false] at hb
    rcases hb with rfl | rfl | rfl | rfl | rfl
    · rw [bs_size, blk_len (by omega)]
    · rw [bs_size, blk_len (by omega)]
    · rw [bs_size, blk_len (by omega)]
    · rw [bs_size, blk_len (by decide)]
    · rw [bs_size, blk_len (by rw [z_len]; decide)]
  · have := List.eq_of_mem_replicate hb
    rw [this, bs_size, z_len]
theorem seqR_size {d : D} {loc : Int} (j : Nat) (hj : j < (seqR d loc).length) : ((seqR d loc).getD j ⟨#[]⟩).size = 2048 := by
  by_cases h : seqE d loc = 0
  · rw [seqR_zero h] at hj ⊢
    rw [List.getD_eq_getElem?_getD, List.getElem?_eq_getElem hj, Option.getD_some]
    exact seqL_size (seqE_zero h).1 _ _ (List.getElem_mem hj)
  · rw [seqR_err h] at hj
    cases hj
end Vs

set_option maxHeartbeats 1600000 in
set_option maxRecDepth 100000 in
/-- example. -/
theorem example_any (w : World) : Calls Tryz.prog 41 #[] w fun e w' => e = .returned (.agg (Vs.dC Vs.exD)) ∧ Below w.heap.size w w' := by
  obtain ⟨X, hX⟩ : ∃ X, X = Vs.dC Vs.exD := ⟨_, rfl⟩
  obtain ⟨Z, hZ⟩ : ∃ Z, Z = Vs.zC := ⟨_, rfl⟩
  have HXL := Lib.hid (show (#[.string ⟨#[68, 73, 83, 67]⟩, .string ⟨#[]⟩, .string ⟨#[]⟩, .string ⟨#[]⟩, .string ⟨#[]⟩, .int .i64 1, .int .i64 1, .int .i64 315532800, .int .i64 0, .int .i64 1, .int .i64 257, .int .i64 100, .int .i64 0, .int .i64 0, .int .i64 0, .string ⟨#[]⟩, .int .i64 0, .int .i64 2048, .int .i64 0, .int .i64 0, .int .i64 64, .int .i64 2] : Array Value) = X from hX.symm)
  have HZL := Lib.hid (show (#[.string ⟨#[]⟩, .string ⟨#[]⟩, .string ⟨#[]⟩, .string ⟨#[]⟩, .string ⟨#[]⟩, .int .i64 0, .int .i64 0, .int .i64 0, .int .i64 0, .int .i64 0, .int .i64 0, .int .i64 0, .int .i64 0, .int .i64 0, .int .i64 0, .string ⟨#[]⟩, .int .i64 0, .int .i64 0, .int .i64 0, .int .i64 0, .int .i64 0, .int .i64 0] : Array Value) = Z from hZ.symm)
  have HXI := Lib.hid (show (Tryz.prog.info? 46).map (·.size) = some X.size by rw [hX]; exact Vs.zC_info)
  have HX1 := Lib.hid (show X.all (·.oneCell') = true by rw [hX]; exact Vs.dC_one _)
  have HXE := Lib.hid hX
  have hzs : Z.size = X.size := by rw [hZ, hX]; rfl
  have hzx : X.size = 22 := by rw [hX]; rfl
  have HB := Lib.hid ((Below.refl w.heap.size w).alloc (Nat.le_refl _) (.cells Z 46))
  have HN := Lib.hid (heap_alloc_new w (.cells Z 46))
  have hst := Vs.run_put (P := Tryz.prog) HN.out X hzs HX1.out
  rw [← hX]
  clear hX hZ
  go_enter Tryz.func41, Tryz.ntmps41
  go_upto_region 1 with fail
  rw [HZL.out]
  generalize w.alloc (.cells Z 46) = W1 at *
  go_wp2_with (refine wpList_store_mid rfl 46 _ _ rfl w.heap.size 0 #[.string ⟨#[68, 73, 83, 67]⟩, .string ⟨#[]⟩, .string ⟨#[]⟩, .string ⟨#[]⟩, .string ⟨#[]⟩, .int .i64 1, .int .i64 1, .int .i64 315532800, .int .i64 0, .int .i64 1, .int .i64 257, .int .i64 100, .int .i64 0, .int .i64 0, .int .i64 0, .string ⟨#[]⟩, .int .i64 0, .int .i64 2048, .int .i64 0, .int .i64 0, .int .i64 64, .int .i64 2] (by rfl) (by rfl) (Vs.row_there HN.out (by rw [hzs, hzx]; rfl)) (HXI.out.trans (by rw [hzx]; rfl)) (by rw [HXL.out]; exact HX1.out) ?_; rw [HXL.out])
  exact bodyPost_ret (v := .agg X) (res_c rfl _ _ w.heap.size 46 X (0, 0) _ rfl (Vs.row_put HN.out hzs) Tryz.underlying46 rfl HXI.out) rfl ⟨rfl, Vs.below_put (Nat.le_refl _) _ _ _ HB.out⟩
end Go.Proofs.YthkppbimkjmbnaaGreatDoor
