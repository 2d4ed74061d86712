/-
  slices.Repeat of an image of one block.
-/
import Derived.Laws.CopyOwn
import Derived.Laws.MakeOwn
import Derived.Deep.RegionLaw
import Derived.Test.YtlhechlbmbjffaaDoorJu
namespace Go.Proofs.YtlhechlbmbjffaaDoor
open Go.RowKit
namespace Lm
/-- n copies, and zero strings behind them. -/
def rep (s : ByteArray) (c n : Nat) : List Value := List.replicate n (.string s) ++ List.replicate (c - n) (.string ⟨#[]⟩)
theorem rep_len (s : ByteArray) {c n : Nat} (h : n ≤ c) : (rep s c n).length = c := by simp [rep]; omega
theorem rep_splice (s : ByteArray) (c n m : Nat) : splice (rep s c n) n (List.replicate m (.string s)) = rep s c (n + m) := by
  unfold splice rep
  rw [List.take_left' (by simp), List.drop_append]
  simp only [List.length_replicate, List.drop_replicate]
  rw [show n - (n + m) = 0 by omega, List.replicate_zero, List.nil_append, show n + m - n = m by omega, ← List.append_assoc, List.replicate_append_replicate, show c - n - m = c - (n + m) by omega]
theorem rep_one (s : ByteArray) (m : Nat) : ∀ v ∈ List.replicate m (Value.string s), v.oneCell' = true := by
  intro v hv
  rw [(List.mem_replicate.1 hv).2]
  rfl
theorem made_one (v : Value) (n : Nat) : madeCells #[v] n = (List.replicate n v).toArray := by
  apply Array.ext
  · simp [madeCells]
  · intro i h1 h2
    simp [madeCells, Nat.mod_one]
end Lm

set_option maxHeartbeats 600000 in
set_option maxRecDepth 100000 in
/-- slices.Repeat of one block. -/
theorem repeatI_any (s : ByteArray) (c xg xc : Nat) (w : World) (hx : w.cell? ⟨xg, 0, none⟩ = some (.string s)) (h1 : 1 ≤ c) (hc : c ≤ 4096) :
    Calls Tryd.prog 22 #[.slice (some ⟨xg, 0, none⟩) 1 xc, .int .i64 c] w fun e w' => ∃ g, e = .returned (.slice (some ⟨g, 0, none⟩) c c) ∧ w.heap.size ≤ g ∧ w'.heap[g]? = some (.cells (List.replicate c (.string s)).toArray 9 (0, 0)) ∧ Below w.heap.size w w' := by
  obtain ⟨i0, hi, hz0, hz1, hz2⟩ := info_parts strInfo
  have hmk : ∀ W, (Instr.makeSlice 23 (.int .i64 c) (.int .i64 c)).run Tryd.prog W = .ok (.slice (some ⟨W.heap.size, 0, none⟩) c c) (W.alloc (.cells (Lm.rep s c 0).toArray 9)) := fun W => by
    have h := run_make (P := Tryd.prog) W 23 9 i0 _ Tryd.underlying23 hi hz0 .i64 .i64 c c (by omega) (Int.le_refl _) (by rw [hz2]; omega) (by omega)
    simp only [Int.toNat_natCast, hz1, Nat.mul_one] at h
    rw [h]
    have : madeCells (Value.string ⟨#[]⟩).cells c = (Lm.rep s c 0).toArray := by
      show madeCells #[Value.string ⟨#[]⟩] c = _
      rw [Lm.made_one]
      simp [Lm.rep]
    rw [this]
  have CM := Lib.hid (Tryd.bits_Mul 1 c (by omega) (by omega) w)
  rw [show 1 * c / 18446744073709551616 = 0 by omega, show 1 * c % 18446744073709551616 = c by omega, show ((1 : Nat) : Int) = 1 from rfl, show ((0 : Nat) : Int) = 0 from rfl] at CM
  have hn0 : ¬ ((c : Int) < 0) := by omega
  go_enter Tryd.func22, Tryd.ntmps22
  go_wp2_with fail
  with_reducible refine CM.out.mono ?_
  rintro e w2 ⟨rfl, rfl⟩
  have hg0 : (w2.alloc (.cells (Lm.rep s c 0).toArray 9)).heap[w2.heap.size]? = some (.cells (Lm.rep s c 0).toArray 9 (0, 0)) := heap_alloc_new w2 _
  have hb0 : Below w2.heap.size w2 (w2.alloc (.cells (Lm.rep s c 0).toArray 9)) := (Below.refl _ w2).alloc (Nat.le_refl _) _
  have hx0 := (hb0.cell (p := ⟨xg, 0, none⟩) (World.block_lt_of_cell? _ _ hx)).trans hx
  have HG0 := Lib.hid hg0
  have HB0 := Lib.hid hb0
  have HX0 := Lib.hid hx0
  have dk : decide (9223372036854775807 < (c : Int)) = false := decide_eq_false (by omega)
  have huI : Tryd.prog.underlying 23 = some (.slice 9) := Tryd.underlying23
  have hsI : (Tryd.prog.info? 9).map (·.size) = some 1 := by kernel_rfl
  have hc1 := Lib.hid (show (1 : Nat) = Nat.min 1 c from (Nat.min_eq_left h1).symm)
  have hrl := Lib.hid (Lm.rep_len s (Nat.zero_le c))
  have hsp := Lib.hid (Lm.rep_splice s c 0 1)
  have hsI := Lib.hid hsI
  have huI := Lib.hid huI
  clear hg0 hb0 hx0 hx CM
  go_wp2_with (refine wpList_copy_splice rfl (.tmp 31) (.tmp 32) 23 23 (by rfl) 9 huI.out hsI.out (some ⟨w2.heap.size, 0, none⟩) (some ⟨xg, 0, none⟩) c c 1 xc (by rfl) (by rfl) w2.heap.size 0 (Lm.rep s c 0) 9 HG0.out (List.replicate 1 (.string s)) hc1.out (fun _ => ⟨rfl, ⟨xg, 0, none⟩, rfl, fun j v hj => ?_⟩) (by rw [hrl.out]; simpa using h1) (Lm.rep_one s 1) w2.heap.size w2 HB0.out (Nat.le_refl _) ?_)
  · obtain ⟨hj0, rfl⟩ : j = 0 ∧ Value.string s = v := by
      have hlt := (List.getElem?_eq_some_iff.1 hj).1
      simp at hlt
      subst hlt
      simpa using hj
    subst hj0
    exact HX0.out
  · intro w3 HG3 hb3
    have HG4 : Hid (w3.heap[w2.heap.size]? = some (.cells (Lm.rep s c 1).toArray 9 (0, 0))) := Lib.hid (by
      have h := HG3.out
      rw [show splice (Lm.rep s c 0) 0 [Value.string s] = Lm.rep s c 1 from hsp.out] at h
      exact h)
    clear HG3 HX0 HG0 HB0 hsp hrl hc1
    go_wp2_with fail
    go_loopw [8] (fun iv wr => ∃ n : Nat, 1 ≤ n ∧ n ≤ c ∧ iv = .int .i64 n ∧ Hid (wr.heap[w2.heap.size]? = some (.cells (Lm.rep s c n).toArray 9 (0, 0))) ∧ Below w2.heap.size w2 wr) (fun iv _ => c - (intOf iv).toNat)
    case atStart => exact ⟨1, Nat.le_refl _, h1, rfl, HG4, hb3⟩
    case round =>
      clear HG4 hb3
      obtain ⟨n, hn1, hnc, rfl, HG, hbr⟩ := hrel
      by_cases hlt : n < c
      · obtain ⟨m, hm⟩ : ∃ m, Nat.min n (c - n) = m := ⟨_, rfl⟩
        obtain ⟨hm1, hm2, hm3⟩ : 1 ≤ m ∧ n + m ≤ c ∧ m ≤ n := by
          have : m = min n (c - n) := hm.symm
          omega
        have HM := Lib.hid (show (List.replicate m (Value.string s)).length = Nat.min n (c - n) by rw [List.length_replicate, hm])
        have HSP := Lib.hid (Lm.rep_splice s c n m)
        have HRL := Lib.hid (show n + (List.replicate m (Value.string s)).length ≤ (Lm.rep s c n).length by rw [List.length_replicate, Lm.rep_len s hnc]; exact hm2)
        have HBR := Lib.hid (show Below w2.heap.size w2 wr.drew from hbr.drew)
        have HCS := Lib.hid (show ∀ j v, (List.replicate m (Value.string s))[j]? = some v → wr.drew.cell? ((⟨w2.heap.size, 0, none⟩ : Addr).add j) = some v from fun j v hj => by
          have hlt2 : j < m := by
            have := (List.getElem?_eq_some_iff.1 hj).1
            simpa using this
          rw [Addr.add_lit, Nat.zero_add, Lib.cell_of_heap (show wr.drew.heap[w2.heap.size]? = _ from HG.out)]
          have hjn : j < n := by omega
          rw [← hj]
          simp [Lm.rep, List.getElem?_append_left, hjn, hlt2])
        have hcn : ¬ c = n := by omega
        have HGD := Lib.hid (show wr.drew.heap[w2.heap.size]? = some (.cells (Lm.rep s c n).toArray 9 (0, 0)) from HG.out)
        clear hm
        have HWR := Lib.hid (show IntKind.i64.wrap ((n : Int) + (m : Int)) = (n : Int) + m from IntWalk.i64_in _ (by omega))
        go_wp2_with fail
        go_region_law (with_reducible refine step_copy_splice (P := Tryd.prog) (w := wr.drew) (by rfl) (.tmp 41) (.tmp 44) 23 23 (by rfl) 9 huI.out hsI.out (some ⟨w2.heap.size, n, none⟩) (some ⟨w2.heap.size, 0, none⟩) (c - n) (c - n) n c (by simp [Act.eval, Act.put]) (by simp [Act.eval, Act.put]) w2.heap.size n (Lm.rep s c n) 9 HGD.out (List.replicate m (.string s)) HM.out (fun _ => ⟨rfl, ⟨w2.heap.size, 0, none⟩, rfl, HCS.out⟩) HRL.out (Lm.rep_one s m) w2.heap.size w2 HBR.out (Nat.le_refl _) ?_; intro w4 HG4 hb4; simp only [goInt, List.length_replicate])
        have HG5 : Hid (w4.heap[w2.heap.size]? = some (.cells (Lm.rep s c (n + m)).toArray 9 (0, 0))) := Lib.hid (by
          have h := HG4.out
          rw [HSP.out] at h
          exact h)
        all_goals simp only [List.getElem_toArray, List.getElem_cons_succ, List.getElem_cons_zero, HWR.out, go_sem, List.setIfInBounds_toArray, List.set_cons_succ, List.set_cons_zero]
        all_goals go_roundw
        all_goals first
          | (exact ⟨n + m, by omega, hm2, by go_num, HG5, hb4⟩)
          | (exact ⟨_, _, _, _, _, _, _, _, _, _, _, _, _, _, ⟨n + m, by omega, hm2, by go_num, HG5, hb4⟩, rfl⟩)
          | (simp [intOf]; omega)
      · obtain rfl : n = c := by omega
        go_wp2_with fail
        go_ret
        refine ⟨w2.heap.size, rfl, Nat.le_refl _, ?_, hbr⟩
        have h := HG.out
        simpa [Lm.rep] using h
end Go.Proofs.YtlhechlbmbjffaaDoor
