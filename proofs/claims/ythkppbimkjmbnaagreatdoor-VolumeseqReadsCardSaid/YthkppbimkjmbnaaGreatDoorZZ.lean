/-
  Descriptors are equal to themselves, as the model compares structs.
-/
import Derived.Test.YthkppbimkjmbnaaGreatDoorZY
import Derived.Laws.StructEq
import Derived.Test.YthkppbimkjmbnaaGreatDoorZQ
import Derived.Test.YthkppbimkjmbnaaGreatDoorZE
import Derived.Test.YthkppbimkjmbnaaGreatDoorZK
import Derived.Lib.SlicesCompact
import Derived.Test.YthkppbimkjmbnaaGreatDoorZB
import Derived.Test.YthkppbimkjmbnaaGreatDoorShelf
import Derived.Sort.OwnSortedInts
import Derived.Shelf.Slices.In.SortNone
namespace Go.Proofs.YthkppbimkjmbnaaGreatDoor
open Go.RowKit
open Vs (bs by_)
set_option maxRecDepth 100000 in
set_option maxHeartbeats 1600000 in
theorem eqIn_refl (d : Vs.D) (W : World) : (Op.equalIn 10000 46 (.agg (Vs.dC d)) (.agg (Vs.dC d))).run Tryz.prog W = .ok true W := by
  have h1 : Tryz.prog.stoodInHeld 46 = false := by kernel_rfl
  have h2 : Tryz.prog.stoodInHeld 38 = false := by kernel_rfl
  have h3 : Tryz.prog.stoodInHeld 40 = false := by kernel_rfl
  have h4 : Tryz.prog.stoodInHeld 23 = false := by kernel_rfl
  have h5 : Tryz.prog.stoodInHeld 44 = false := by kernel_rfl
  have h6 : Tryz.prog.stoodInHeld 42 = false := by kernel_rfl
  unfold Vs.dC
  rw [show (10000 : Nat) = 9999 + 1 from rfl, run_equalIn_struct W 9999 _ _ _ (by rfl) h1]
  have e1 := Tryz.underlying46
  have e2 := Tryz.underlying38
  have e3 := Tryz.underlying40
  have e4 := Tryz.underlying23
  have e5 := Tryz.underlying44
  have e6 := Tryz.underlying42
  have e7 := Tryz.underlying3
  have e8 := Tryz.underlying9
  simp [go_sem, e1, e2, e3, e4, e5, e6, e7, e8, h2, h3, h4, h5, h6]
  trace_state
theorem eqD_guard : Tryz.prog.eqGuardType Tryz.prog.depth 46 = false := by kernel_rfl
/-- '==' of descriptors that are the same, at an operation. -/
theorem wpList_eqD {ops : Array Oper} {rest : List Oper} {o : Oper} {a : Act} {w : World} {Q : Exit → Act → World → Prop} (rt : TypeId) (x y : Operand) (ho : o.op = .binOp .eql 46 x y rt) (X : Array Value) (hx : a.eval x = .agg X) (hy : a.eval y = .agg X)
    (he : (Op.equalIn 10000 46 (.agg X) (.agg X)).run Tryz.prog w = .ok true w) (hw : Region.wanted o (yielded ops a.tmps) = true) (h : wpList Tryz.prog ops Q rest (a.put o.dst (.bool true)) w) : wpList Tryz.prog ops Q (o :: rest) a w :=
  wpList_step fun K hK => by
    rw [if_pos hw]
    unfold Oper.wp execOp
    simp only [ho, hx, hy, Sem.run_bind, run_eqGuard_agg w _ _ _ _ _ _ eqD_guard, Result.andThen_ok, run_eql_struct, he, Sem.run_pure]
    exact hK _ _ h
end Go.Proofs.YthkppbimkjmbnaaGreatDoor

/-
  The walk through volumeseq.Recognition.
-/
namespace Go.Proofs.YthkppbimkjmbnaaGreatDoor
open Go.RowKit
open Vs (bs by_)
namespace Vs
/-- The recognition sequence. -/
def recI : List ByteArray := [⟨#[66, 69, 65, 48, 49]⟩, ⟨#[78, 83, 82, 48, 51]⟩, ⟨#[84, 69, 65, 48, 49]⟩]
def recB (x : ByteArray) : ByteArray := bs (0 :: (by_ x ++ (1 :: z 2041)))
def recL : List ByteArray := recI.map recB
theorem rec_cut {x : ByteArray} (hx : x.size = 5) : ((⟨#[0]⟩ : ByteArray) ++ x ++ (⟨#[1]⟩ : ByteArray) ++ bs (z 2048)).extract 0 2048 = recB x := by
  rw [bs_ext]
  unfold recB
  refine congrArg bs ?_
  have e : by_ ((⟨#[0]⟩ : ByteArray) ++ x ++ (⟨#[1]⟩ : ByteArray) ++ bs (z 2048)) = [] ++ ((0 :: (by_ x ++ (1 :: z 2041))) ++ z 7) := by
    rw [by_app, by_app, by_app, show by_ (bs (z 2048)) = z 2041 ++ z 7 from (z_add 2041 7).symm]
    show [0] ++ by_ x ++ [1] ++ (z 2041 ++ z 7) = _
    simp only [List.append_assoc, List.cons_append, List.nil_append]
  exact sl_mid e rfl (by simp only [List.length_cons, List.length_append, by_len, z_len]; omega)
theorem recI_size {j : Nat} (h : j < 3) : (recI.getD j ⟨#[]⟩).size = 5 := by
  have : j = 0 ∨ j = 1 ∨ j = 2 := by omega
  rcases this with rfl | rfl | rfl <;> rfl
theorem recL_take {j : Nat} (h : j < 3) : recL.take (j + 1) = recL.take j ++ [recB (recI.getD j ⟨#[]⟩)] := by
  have : j = 0 ∨ j = 1 ∨ j = 2 := by omega
  rcases this with rfl | rfl | rfl <;> rfl
end Vs

set_option maxHeartbeats 3200000 in
set_option maxRecDepth 100000 in
/-- Recognition. -/
theorem recog_any (w : World) : Calls Tryz.prog 17 #[] w fun e w' => ∃ v, e = .returned v ∧ w'.ownsRow w.heap.size 9 1 v 3 (Vs.strs Vs.recL) ∧ Below w.heap.size w w' := by
  have CZ := Lib.hid zero_any
  have HB0 := Lib.hid ((Below.refl w.heap.size w).alloc (Nat.le_refl _) (.cells #[.string ⟨#[66, 69, 65, 48, 49]⟩, .string ⟨#[78, 83, 82, 48, 51]⟩, .string ⟨#[84, 69, 65, 48, 49]⟩] 9))
  have HN0 := Lib.hid (heap_alloc_new w (.cells #[.string ⟨#[66, 69, 65, 48, 49]⟩, .string ⟨#[78, 83, 82, 48, 51]⟩, .string ⟨#[84, 69, 65, 48, 49]⟩] 9))
  have HNW := Lib.hid (fun (W' : World) => (show W'.ownsRow (w.heap.size + 1) 9 1 (.slice none 0 0) 0 (Vs.strs (Vs.recL.take 0)) from ⟨rfl, Or.inl ⟨rfl, rfl⟩⟩))
  go_enter Tryz.func17, Tryz.ntmps17
  go_wp2_with fail
  have hW1s : (w.alloc (.cells #[.string ⟨#[66, 69, 65, 48, 49]⟩, .string ⟨#[78, 83, 82, 48, 51]⟩, .string ⟨#[84, 69, 65, 48, 49]⟩] 9)).heap.size = w.heap.size + 1 := by simp
  generalize w.alloc (.cells #[.string ⟨#[66, 69, 65, 48, 49]⟩, .string ⟨#[78, 83, 82, 48, 51]⟩, .string ⟨#[84, 69, 65, 48, 49]⟩] 9) = W1 at *
  go_loopw [1, 3, 6] (fun ov _ iv wr => ∃ j : Nat, j ≤ 3 ∧ iv = .int .i64 j ∧ wr.ownsRow (w.heap.size + 1) 9 1 ov j (Vs.strs (Vs.recL.take j)) ∧ Below W1.heap.size W1 wr) (fun _ _ iv _ => 3 - (intOf iv).toNat)
  case atStart => exact ⟨0, by omega, rfl, HNW.out _, Below.refl _ _⟩
  case round =>
    obtain ⟨j, hj, rfl, ho, hbw⟩ := hrel
    obtain ⟨A, c, rfl⟩ := own_shape ho
    have HO := Lib.hid ho
    have HBW := Lib.hid hbw
    clear ho hbw
    by_cases hlt : j < 3
    · have hx := Vs.recI_size hlt
      have HC := Lib.hid (Vs.rec_cut hx)
      have HT := Lib.hid (Vs.recL_take hlt)
      have hrow := (HBW.out.block w.heap.size (by omega)).trans HN0.out
      have hc : wr.cell? ⟨w.heap.size, j, none⟩ = some (.string (Vs.recI.getD j ⟨#[]⟩)) := by
        rw [cell_of_row _ _ j _ _ _ hrow]
        have : j = 0 ∨ j = 1 ∨ j = 2 := by omega
        rcases this with rfl | rfl | rfl <;> rfl
      clear hrow
      generalize Vs.recI.getD j ⟨#[]⟩ = x at *
      have hxI : (x.size : Int) = 5 := by omega
      have hcut := HC.out
      have hzs : (bs (Vs.z 2048)).size = 2048 := by rw [Vs.bs_size, Vs.z_len]
      generalize bs (Vs.z 2048) = zz at *
      have hzI : (zz.size : Int) = 2048 := by omega
      go_wp2_with fail
      with_reducible refine (CZ.out _).mono ?_
      rintro e w2 ⟨rfl, hb2⟩
      have HB2 := Lib.hid hb2
      have hsz : w.heap.size + 1 ≤ w2.heap.size := by have h1 := hb2.size; have h2 := HBW.out.size; omega
      clear hb2
      have HO2 := Lib.hid (Kit.own_below HO.out HB2.out)
      go_wp2_with (at_builtin; refine Kit.app strInfo rfl (by decide) rfl _ _ 31 rfl Tryz.underlying31 (w.heap.size + 1) _ _ _ rfl HO2.out [_] 1 1 rfl rfl (Kit.one1 rfl) ?c1 hsz ?_)
      case c1 => omega
      intro v' w' ho' hb'
      obtain ⟨g2, cap2, rfl⟩ : ∃ g2 cap2, v' = .slice (some ⟨g2, 0, none⟩) (j + 1) cap2 := by
        rcases ho'.2 with ⟨_, h0⟩ | ⟨g2, cap2, _, h0, _⟩
        · omega
        · exact ⟨g2, cap2, h0⟩
      have HO3 := Lib.hid ho'
      have HB3 := Lib.hid ((HBW.out.trans (HB2.out.mono HBW.out.size)).trans (hb'.mono (by omega)))
      clear ho' hb'
      go_wp2_with fail
      go_roundw
      case rel => exact ⟨j + 1, by omega, by go_num, by rw [HT.out, Vs.strs_snoc]; exact HO3.out, HB3.out⟩
      case measure => simp [intOf]; omega
    · obtain rfl : j = 3 := by omega
      go_wp2_with fail
      go_ret
      exact ⟨_, rfl, Kit.own_base HO.out (Nat.le_succ _), HB0.out.trans (HBW.out.mono (by omega))⟩
end Go.Proofs.YthkppbimkjmbnaaGreatDoor

/-
  Plain: the law's example, and what a sequence is where there is one; no program in sight.
-/
namespace Go.Proofs.YthkppbimkjmbnaaGreatDoor
namespace Vs
theorem seqE_zero {d : D} {loc : Int} (h : seqE d loc = 0) : okD d = true ∧ 0 ≤ loc ∧ loc ≤ 4294967280 := by
  unfold seqE at h
  split at h
  · rename_i h1
    rw [Bool.and_eq_true, decide_eq_true_eq, decide_eq_true_eq] at h1
    split at h
    · rename_i h2
      exact ⟨h2, h1.1, h1.2⟩
    · cases h
  · cases h
theorem seqR_zero {d : D} {loc : Int} (h : seqE d loc = 0) : seqR d loc = seqL d loc.toNat := if_pos h
theorem seqR_err {d : D} {loc : Int} (h : seqE d loc ≠ 0) : seqR d loc = [] := if_neg h
/-- Reading what Sequence returns. -/
theorem par_seqR {d : D} {loc : Int} (h : seqE d loc = 0) : parR (seqR d loc) loc = ((keptD d, 0), 0) := by
  obtain ⟨h1, h2, h3⟩ := seqE_zero h
  rw [seqR_zero h]
  have := par_seq h1 (loc := loc.toNat) (by omega) (List.replicate 11 (bs (z 2048))) (by rw [List.length_replicate]; decide)
  rw [Int.toNat_of_nonneg h2] at this
  exact this
/-- The example. -/
def exD : D := ⟨⟨⟨#[68, 73, 83, 67]⟩, ⟨#[]⟩, ⟨#[]⟩, ⟨#[]⟩, ⟨#[]⟩, 1, 1, 315532800⟩, ⟨0, 1, 257, 100, 0, 0⟩, 0, ⟨#[]⟩, 0, 2048, 0, 0, 64, 2⟩
theorem ex_ok : okD exD = true := by decide +kernel
theorem ex_e : seqE exD 32 = 0 := by
  unfold seqE
  rw [if_pos (by decide), if_pos ex_ok]
theorem ex_kept : keptD exD = exD := by
  have h : Cs.fitR [] 128 = [] := by decide +kernel
  have e : keptD exD = { exD with vol := { exD.vol with set := bs (Cs.fitR [] 128), pub := ⟨#[]⟩, prep := ⟨#[]⟩, app := ⟨#[]⟩ } } := rfl
  rw [e, h]
  rfl
theorem ex_len : (seqR exD 32).length = 16 := by rw [seqR_zero ex_e]; rfl
theorem ex_par : parR (seqR exD 32) 32 = ((exD, 0), 0) := by rw [par_seqR ex_e, ex_kept]
theorem ex_anc1 : ancR 0 400 false = [143, 256, 399] := by decide +kernel
theorem ex_anc2 : ancR 100 257 false = [100, 356] := by decide +kernel
theorem ex_anc3 : ancR 0 400 true = [256] := by decide +kernel
theorem ex_anchor : anchorR 256 32 16 48 16 = (blk 2 1 256 (ancL 32 16 48 16), 0) := (if_pos (by decide)).trans (if_pos (by decide))
theorem ex_panc : pancR (blk 2 1 256 (ancL 32 16 48 16)) 256 = (((32, 16), (48, 16)), 0) := panc_anc (loc := 256) (by decide) (by decide) (by decide)
theorem ex_rec0 : (recL.getD 0 ⟨#[]⟩).size = 2048 ∧ (recL.getD 0 ⟨#[]⟩).extract 0 7 = ⟨#[0, 66, 69, 65, 48, 49, 1]⟩ := by
  constructor
  · show (bs (0 :: (by_ (⟨#[66, 69, 65, 48, 49]⟩ : ByteArray) ++ (1 :: z 2041)))).size = 2048
    rw [bs_size]
    simp only [List.length_cons, List.length_append, z_len]
    rfl
  · show (bs (0 :: (by_ (⟨#[66, 69, 65, 48, 49]⟩ : ByteArray) ++ (1 :: z 2041)))).extract 0 7 = _
    rw [bs_ext]
    exact congrArg bs (sl_mid (p := []) (q := z 2041) (m := [0, 66, 69, 65, 48, 49, 1]) rfl rfl rfl)
end Vs
end Go.Proofs.YthkppbimkjmbnaaGreatDoor

/-
  Plain: sorted and compacted, the anchors of a session.
-/
namespace Go.Proofs.YthkppbimkjmbnaaGreatDoor
namespace Vs
theorem compact_inv (d : Array Int) (hs : ∀ i j, i ≤ j → j < d.size → d[i]! ≤ d[j]!) : ∀ m, m ≤ d.size → (Lib.compactUpTo d m).Pairwise (· < ·) ∧ ∀ x, x ∈ Lib.compactUpTo d m ↔ ∃ j, j < m ∧ d[j]! = x := by
  intro m
  induction m with
  | zero => intro _; exact ⟨List.Pairwise.nil, fun x => ⟨fun h => (by cases h), fun ⟨j, hj, _⟩ => absurd hj (Nat.not_lt_zero _)⟩⟩
  | succ m ih =>
    intro hm
    obtain ⟨h1, h2⟩ := ih (by omega)
    rw [Lib.compactUpTo_succ]
    by_cases hk : Lib.keeps d m = true
    · rw [if_pos hk]
      refine ⟨?_, fun x => ?_⟩
      · rw [List.pairwise_append]
        refine ⟨h1, List.pairwise_singleton _ _, fun a ha b hb => ?_⟩
        rw [List.mem_singleton] at hb
        subst hb
        obtain ⟨j, hj, rfl⟩ := (h2 a).1 ha
        unfold Lib.keeps at hk
        have hk := of_decide_eq_true hk
        rcases hk with hk | hk
        · omega
        · have e1 := hs j (m - 1) (by omega) (by omega)
          have e2 := hs (m - 1) m (by omega) (by omega)
          omega
      · rw [List.mem_append, List.mem_singleton, h2]
        constructor
        · rintro (⟨j, hj, e⟩ | e)
          · exact ⟨j, by omega, e⟩
          · exact ⟨m, by omega, e.symm⟩
        · rintro ⟨j, hj, e⟩
          by_cases hjm : j = m
          · subst hjm; exact .inr e.symm
          · exact .inl ⟨j, by omega, e⟩
    · rw [if_neg hk, List.append_nil]
      refine ⟨h1, fun x => ?_⟩
      rw [h2]
      constructor
      · rintro ⟨j, hj, e⟩
        exact ⟨j, by omega, e⟩
      · rintro ⟨j, hj, e⟩
        by_cases hjm : j = m
        · subst hjm
          unfold Lib.keeps at hk
          rw [decide_eq_true_eq] at hk
          have h0 : j ≠ 0 := fun h => hk (.inl h)
          have he : d[j]! = d[j - 1]! := Classical.byContradiction fun h => hk (.inr h)
          exact ⟨j - 1, by omega, by rw [← he]; exact e⟩
        · exact ⟨j, by omega, e⟩
/-- A list that is sorted and compacted: strictly sorted, with the same elements. -/
theorem sorted_compact (l : List Int) : (Lib.compact (l.mergeSort fun x y => decide (x ≤ y))).Pairwise (· < ·) ∧ ∀ x, x ∈ Lib.compact (l.mergeSort fun x y => decide (x ≤ y)) ↔ x ∈ l := by
  have hp := List.pairwise_mergeSort (le := fun x y : Int => decide (x ≤ y)) (fun a b c h1 h2 => decide_eq_true (Int.le_trans (of_decide_eq_true h1) (of_decide_eq_true h2))) (fun a b => by
    rcases Int.le_total a b with h | h
    · simp [h]
    · simp [h]) l
  have hmem := fun x : Int => List.mem_mergeSort (le := fun x y : Int => decide (x ≤ y)) (a := x) (l := l)
  generalize (l.mergeSort fun x y => decide (x ≤ y)) = s at *
  have hs : ∀ i j, i ≤ j → j < s.toArray.size → s.toArray[i]! ≤ s.toArray[j]! := by
    intro i j hij hj
    have hj' : j < s.length := by simpa using hj
    rcases Nat.lt_or_ge i j with h | h
    · have := List.pairwise_iff_getElem.1 hp i j (by omega) hj' h
      simpa [List.getElem!_toArray, List.getElem!_eq_getElem?_getD, show i < s.length by omega, hj'] using this
    · obtain rfl : i = j := by omega
      exact Int.le_refl _
  obtain ⟨h1, h2⟩ := compact_inv s.toArray hs s.length (by simp)
  refine ⟨h1, fun x => (h2 x).trans ?_⟩
  rw [← hmem x, List.mem_iff_getElem]
  constructor
  · rintro ⟨j, hj, e⟩
    exact ⟨j, hj, by simpa [List.getElem!_eq_getElem?_getD, hj] using e⟩
  · rintro ⟨j, hj, e⟩
    exact ⟨j, hj, by simpa [List.getElem!_eq_getElem?_getD, hj] using e⟩
/-- Two strictly sorted lists with the same elements are one. -/
theorem strict_eq {a b : List Int} (ha : a.Pairwise (· < ·)) (hb : b.Pairwise (· < ·)) (h : ∀ x, x ∈ a ↔ x ∈ b) : a = b := by
  have na : a.Nodup := ha.imp (fun h => Int.ne_of_lt h)
  have nb : b.Nodup := hb.imp (fun h => Int.ne_of_lt h)
  exact List.Perm.eq_of_pairwise (fun x y _ _ h1 h2 => absurd h2 (Int.not_lt.2 (Int.le_of_lt h1))) ha hb ((List.perm_ext_iff_of_nodup na nb).2 h)
/-- The anchors, as the program makes them. -/
theorem anc_sorted (s c : Int) (op : Bool) (h : sess s c = true) :
    Lib.compact (((if op = true then [s + 256] else [s + 256, s + c - 1 - 256, s + c - 1]).filter fun k => decide (s ≤ k) && decide (k ≤ s + c - 1)).mergeSort fun x y => decide (x ≤ y)) = ancR s c op := by
  obtain ⟨h1, h2, h3, h4⟩ := (sess_iff s c).1 h
  obtain ⟨q1, q2⟩ := sorted_compact ((if op = true then [s + 256] else [s + 256, s + c - 1 - 256, s + c - 1]).filter fun k => decide (s ≤ k) && decide (k ≤ s + c - 1))
  refine strict_eq q1 ?_ (fun x => (q2 x).trans ?_)
  · unfold ancR
    rw [if_pos h]
    refine List.Pairwise.filter _ ?_
    rw [List.pairwise_map]
    exact List.pairwise_lt_range.imp (fun h => by omega)
  · unfold ancR isAnc
    rw [if_pos h]
    simp only [List.mem_filter, List.mem_map, List.mem_range, Bool.and_eq_true, Bool.or_eq_true, decide_eq_true_eq, Bool.not_eq_true']
    constructor
    · rintro ⟨hm, g1, g2⟩
      refine ⟨⟨(x - s).toNat, by omega, by omega⟩, ?_⟩
      cases op
      · simp only [Bool.false_eq_true, if_false, List.mem_cons, List.not_mem_nil, or_false] at hm
        rcases hm with rfl | rfl | rfl
        · exact .inl rfl
        · exact .inr ⟨rfl, .inl rfl⟩
        · exact .inr ⟨rfl, .inr rfl⟩
      · simp only [if_true, List.mem_singleton] at hm
        exact .inl hm
    · rintro ⟨⟨i, hi, rfl⟩, hm⟩
      refine ⟨?_, by omega, by omega⟩
      cases op
      · simp only [Bool.false_eq_true, if_false, List.mem_cons, List.not_mem_nil, or_false]
        rcases hm with hm | ⟨_, hm | hm⟩
        · exact .inl hm
        · exact .inr (.inl hm)
        · exact .inr (.inr hm)
      · simp only [if_true, List.mem_singleton]
        rcases hm with hm | ⟨hf, _⟩
        · exact hm
        · cases hf
end Vs
end Go.Proofs.YthkppbimkjmbnaaGreatDoor

/-
  slices.Sort and slices.Compact of integers in rows of the call's own.
-/
namespace Go.Proofs.YthkppbimkjmbnaaGreatDoor
open Go.RowKit Go.Sort

/-- slices.Sort of a row of the call's own. -/
theorem sortOwn_any (base g cap : Nat) (zs : List Int) (w : World) (hown : w.ownsRow base 3 1 (.slice (some ⟨g, 0, none⟩) zs.length cap) zs.length (Kit.izs zs)) (hl : zs.length ≤ 100000) (hbw : base ≤ w.heap.size) :
    Calls Tryz.prog 58 #[.slice (some ⟨g, 0, none⟩) zs.length cap] w fun e w' => e = .returned (.tuple #[]) ∧ w'.ownsRow base 3 1 (.slice (some ⟨g, 0, none⟩) zs.length cap) zs.length (Kit.izs (zs.mergeSort fun x y => decide (x ≤ y))) ∧ Below base w w' := by
  have h0 := hown
  rcases hown.2 with ⟨h, _⟩ | ⟨g', cap', cur, hv, hb, hg, hn, hcm, hsz, htk⟩
  · cases h
  cases hv
  have htk' : cur.toList.take zs.length = zs.map (Value.int .i64) := by rw [Nat.mul_one] at htk; exact htk
  refine (Tryz.slices_Sort_int g 0 cap zs w (holds_of_blockI hg htk') (Array.getElem?_eq_some_iff.1 hg).1 (by omega)).mono ?_
  rintro e w' ⟨rfl, n, os, rfl⟩
  refine ⟨rfl, ?_, ?_⟩
  · exact ownsRow_sortedI (ss := zs) (List.length_mergeSort zs) hb hg hn hcm hsz
  · exact (Below.refl base w).grown (grownBy_sortedI (n := n) (os := os) (g := g) _) hbw (fun k hk => by cases hk; exact hb)

/-- slices.Compact of a row of the call's own. -/
theorem compactOwn_any (base g cap : Nat) (zs : List Int) (w : World) (hown : w.ownsRow base 3 1 (.slice (some ⟨g, 0, none⟩) zs.length cap) zs.length (Kit.izs zs)) (hl : zs.length ≤ 100000) (hbw : base ≤ w.heap.size) :
    Calls Tryz.prog 59 #[.slice (some ⟨g, 0, none⟩) zs.length cap] w fun e w' => e = .returned (.slice (some ⟨g, 0, none⟩) (Lib.compact zs).length cap) ∧ w'.ownsRow base 3 1 (.slice (some ⟨g, 0, none⟩) (Lib.compact zs).length cap) (Lib.compact zs).length (Kit.izs (Lib.compact zs)) ∧ Below base w w' := by
  rcases hown.2 with ⟨h, _⟩ | ⟨g', cap', cur, hv, hb, hg, hn, hcm, hsz, htk⟩
  · cases h
  cases hv
  have htk' : cur.toList.take zs.length = zs.map (Value.int .i64) := by rw [Nat.mul_one] at htk; exact htk
  refine (Tryz.slices_Compact_int g 0 cap zs w (holds_of_blockI hg htk') (by omega) hn).mono ?_
  rintro e w' ⟨rfl, q, hw⟩
  have hle := Lib.compact_length_le zs
  have hw2 : w' = grow (putRow (Value.int .i64) (Sort.ahead w q) g 0 (Lib.compact zs ++ List.replicate (zs.length - (Lib.compact zs).length) 0).toArray) #[] := by rw [grow_empty]; exact hw
  have hlen : (Lib.compact zs ++ List.replicate (zs.length - (Lib.compact zs).length) 0).length = zs.length := by
    rw [List.length_append, List.length_replicate]; omega
  generalize hts : Lib.compact zs ++ List.replicate (zs.length - (Lib.compact zs).length) 0 = ts at *
  have hown2 : w'.ownsRow base 3 1 (.slice (some ⟨g, 0, none⟩) zs.length cap) zs.length (ts.map (Value.int .i64)) := by
    rw [hw2]
    exact ownsRow_sortedI (ss := zs) hlen hb hg hn hcm hsz
  refine ⟨rfl, ?_, ?_⟩
  · rcases hown2.2 with ⟨h, _⟩ | ⟨g2, cap2, cur2, hv2, hb2, hg2, hn2, hcm2, hsz2, htk2⟩
    · cases h
    cases hv2
    refine ⟨by simp [Kit.izs], .inr ⟨g, cap, cur2, rfl, hb2, hg2, by omega, hcm2, hsz2, ?_⟩⟩
    rw [Nat.mul_one] at htk2 ⊢
    have h3 := congrArg (List.take (Lib.compact zs).length) htk2
    rw [List.take_take, Nat.min_eq_left hle] at h3
    rw [h3, ← hts, List.map_append, List.take_append_of_le_length (by rw [List.length_map]; exact Nat.le_refl _), List.take_of_length_le (by rw [List.length_map]; exact Nat.le_refl _)]
    rfl
  · rw [hw2]
    exact (Below.refl base w).grown (grownBy_sortedI (n := q) (os := #[]) (g := g) _) hbw (fun k hk => by cases hk; exact hb)
end Go.Proofs.YthkppbimkjmbnaaGreatDoor

/-
  The walk through volumeseq.Anchors.
-/
namespace Go.Proofs.YthkppbimkjmbnaaGreatDoor
open Go.RowKit
namespace Vs
theorem filt_step (P : Int → Bool) (all : List Int) {j : Nat} (h : j < all.length) : (all.take (j + 1)).filter P = (all.take j).filter P ++ (if P (all.getD j 0) = true then [all.getD j 0] else []) := by
  rw [List.take_succ_eq_append_getElem h, List.filter_append]
  congr 1
  have e : all.getD j 0 = all[j] := by simp [List.getD, h]
  rw [e]
  cases hp : P all[j] <;> simp [hp]
theorem compact_nil : Lib.compact (([] : List Int).mergeSort fun x y => decide (x ≤ y)) = [] :=
  List.eq_nil_iff_forall_not_mem.2 fun x hx => by cases (sorted_compact []).2 x |>.1 hx
end Vs
theorem sortNone_any (p : Option Addr) (cap : Nat) (w : World) : Calls Tryz.prog 58 #[.slice p 0 cap] w fun e w' => e = .returned (.tuple #[]) ∧ w' = w := Any.slices_Sort_int_none Tryz.lays189 p cap w

set_option maxHeartbeats 6400000 in
set_option maxRecDepth 100000 in
/-- Anchors. -/
theorem anchors_any (s c : Int) (op : Bool) (w : World) : Calls Tryz.prog 20 #[.agg #[.int .i64 s, .int .i64 c], .bool op] w fun e w' => ∃ v, e = .returned v ∧ w'.ownsRow w.heap.size 3 1 v (Vs.ancR s c op).length (Kit.izs (Vs.ancR s c op)) ∧ Below w.heap.size w w' := by
  have HB0 := Lib.hid ((Below.refl w.heap.size w).alloc (Nat.le_refl _) (.cells #[.int .i64 s, .int .i64 c] 23))
  have HNIL := Lib.hid (fun (W : World) (b : Nat) => (show W.ownsRow b 3 1 (.slice none 0 0) ([] : List Int).length (Kit.izs []) from ⟨rfl, Or.inl ⟨rfl, rfl⟩⟩))
  by_cases hs : Vs.sess s c = true
  case neg =>
    have HR := Lib.hid (show Vs.ancR s c op = [] from if_neg hs)
    have hcs : s < 0 ∨ (0 ≤ s ∧ c < 1) ∨ (0 ≤ s ∧ 1 ≤ c ∧ 4096 < s) ∨ (0 ≤ s ∧ 1 ≤ c ∧ s ≤ 4096 ∧ 4096 - s < c) := by
      rw [Vs.sess_iff] at hs
      omega
    clear hs
    rcases hcs with h | ⟨h, h2⟩ | ⟨h, h2, h3⟩ | ⟨h, h2, h3, h4⟩
    all_goals
      go_enter Tryz.func20, Tryz.ntmps20
      go_wp2_with fail
      go_ret
      rw [HR.out]
      exact ⟨.slice none 0 0, rfl, HNIL.out _ _, HB0.out⟩
  have HAN := Lib.hid (Vs.anc_sorted s c op hs)
  obtain ⟨h1, h2, h3, h4⟩ := (Vs.sess_iff s c).1 hs
  clear hs
  obtain ⟨L, hL⟩ : ∃ L : Int, s + c - 1 = L := ⟨_, rfl⟩
  have hL0 : 0 ≤ L := by omega
  have hL1 : L ≤ 4096 := by omega
  rw [hL] at HAN
  have HN1 := Lib.hid (heap_alloc2_old w (.cells #[.int .i64 s, .int .i64 c] 23) (.cells #[.int .i64 (s + 256), .int .i64 (L - 256), .int .i64 L] 3))
  have HN2 := Lib.hid (heap_alloc2_new w (.cells #[.int .i64 s, .int .i64 c] 23) (.cells #[.int .i64 (s + 256), .int .i64 (L - 256), .int .i64 L] 3))
  have HB1 := Lib.hid (HB0.out.alloc HB0.out.size (.cells #[.int .i64 (s + 256), .int .i64 (L - 256), .int .i64 L] 3))
  have hsz2 : ((w.alloc (.cells #[.int .i64 s, .int .i64 c] 23)).alloc (.cells #[.int .i64 (s + 256), .int .i64 (L - 256), .int .i64 L] 3)).heap.size = w.heap.size + 2 := by simp
  have HL := Lib.hid hL
  cases op
  case false =>
    go_enter Tryz.func20, Tryz.ntmps20
    go_wp2_with fail
    have HAN2 := Lib.hid (show Lib.compact (([s + 256, L - 256, L].filter fun k => decide (s ≤ k) && decide (k ≤ L)).mergeSort fun x y => decide (x ≤ y)) = Vs.ancR s c _ from HAN.out)
    have HAC := Lib.hid (fun j (hj : j < 3) => show (#[.int .i64 (s + 256), .int .i64 (L - 256), .int .i64 L] : Array Value)[j]? = some (.int .i64 ([s + 256, L - 256, L].getD j 0)) by
      have : j = 0 ∨ j = 1 ∨ j = 2 := by omega
      rcases this with rfl | rfl | rfl <;> rfl)
    have hal : ([s + 256, L - 256, L] : List Int).length = 3 := rfl
    generalize (w.alloc (.cells #[.int .i64 s, .int .i64 c] 23)).alloc (.cells #[.int .i64 (s + 256), .int .i64 (L - 256), .int .i64 L] 3) = W2 at *
    generalize ([s + 256, L - 256, L] : List Int) = all at *
    clear HL hL h1 h2 h3 h4 hL0 hL1 HAN
    have HSZ2 := Lib.hid hsz2
    go_loopw [7, 9, 49] (fun ov _ iv wr => ∃ j : Nat, j ≤ 3 ∧ iv = .int .i64 j ∧ wr.ownsRow (w.heap.size + 2) 3 1 ov ((all.take j).filter fun k => decide (s ≤ k) && decide (k ≤ L)).length (Kit.izs ((all.take j).filter fun k => decide (s ≤ k) && decide (k ≤ L))) ∧ Below W2.heap.size W2 wr) (fun _ _ iv _ => 3 - (intOf iv).toNat)
    case atStart => exact ⟨0, by omega, rfl, HNIL.out _ _, Below.refl _ _⟩
    case round =>
      obtain ⟨j, hj, rfl, ho, hbw⟩ := hrel
      obtain ⟨A, cp, rfl⟩ := own_shape ho
      have HO := Lib.hid ho
      have HBW := Lib.hid hbw
      clear ho hbw
      by_cases hlt : j < 3
      · have HF := Lib.hid (Vs.filt_step (fun k => decide (s ≤ k) && decide (k ≤ L)) all (j := j) (by omega))
        have hfl : ((all.take j).filter fun k => decide (s ≤ k) && decide (k ≤ L)).length ≤ 3 := by
          have a1 := List.length_filter_le (fun k => decide (s ≤ k) && decide (k ≤ L)) (all.take j)
          have a2 : (all.take j).length ≤ all.length := by rw [List.length_take]; omega
          omega
        have ck : wr.cell? ⟨w.heap.size + 1, j, none⟩ = some (.int .i64 (all.getD j 0)) := (cell_of_row _ _ _ _ _ _ ((HBW.out.block _ (by omega)).trans HN2.out)).trans (HAC.out j hlt)
        have cs := cell_of_row _ _ 0 _ _ _ ((HBW.out.block w.heap.size (by omega)).trans HN1.out)
        simp only [List.getElem?_toArray, List.getElem?_cons_zero] at cs
        generalize all.getD j 0 = k at *
        by_cases hk : s ≤ k ∧ k ≤ L
        · obtain ⟨k1, k2⟩ := hk
          have HF2 := Lib.hid (show ((all.take (j + 1)).filter fun k => decide (s ≤ k) && decide (k ≤ L)) = ((all.take j).filter fun k => decide (s ≤ k) && decide (k ≤ L)) ++ [k] by rw [HF.out, if_pos (by simp [k1, k2])])
          clear HF
          generalize ((all.take j).filter fun k => decide (s ≤ k) && decide (k ≤ L)) = F at *
          have hsz : w.heap.size + 2 ≤ wr.heap.size := by have h := HBW.out.size; omega
          go_wp2_with (at_builtin; refine Kit.app intInfo rfl (by decide) rfl _ _ 34 rfl Tryz.underlying34 (w.heap.size + 2) _ _ _ rfl HO.out [_] 1 1 rfl rfl (Kit.one1 rfl) ?c1 hsz ?_)
          case c1 => omega
          intro v' w' ho' hb'
          obtain ⟨g2, cap2, rfl⟩ : ∃ g2 cap2, v' = .slice (some ⟨g2, 0, none⟩) (F.length + 1) cap2 := by
            rcases ho'.2 with ⟨_, h0⟩ | ⟨g2, cap2, _, h0, _⟩
            · omega
            · exact ⟨g2, cap2, h0⟩
          have HO3 := Lib.hid ho'
          have HB3 := Lib.hid (HBW.out.trans (hb'.mono (by omega)))
          clear ho' hb' ck cs
          go_wp2_with fail
          go_roundw
          case rel => exact ⟨j + 1, by omega, by go_num, by rw [HF2.out, Kit.izs_append, List.length_append]; exact HO3.out, HB3.out⟩
          case measure => simp [intOf]; omega
        · have HF2 := Lib.hid (show ((all.take (j + 1)).filter fun k => decide (s ≤ k) && decide (k ≤ L)) = ((all.take j).filter fun k => decide (s ≤ k) && decide (k ≤ L)) by rw [HF.out, if_neg (by simpa using hk), List.append_nil])
          clear HF
          have hk2 : k < s ∨ (s ≤ k ∧ L < k) := by omega
          rcases hk2 with hk2 | ⟨hk2, hk3⟩
          all_goals
            go_wp2_with fail
            go_roundw
          all_goals first
            | exact ⟨j + 1, by omega, by go_num, by rw [HF2.out]; exact HO.out, HBW.out⟩
            | (simp [intOf]; omega)
      · obtain rfl : j = 3 := by omega
        rw [List.take_of_length_le (by omega)] at HO ⊢
        have hfl : (all.filter fun k => decide (s ≤ k) && decide (k ≤ L)).length ≤ 3 := by
          have a1 := List.length_filter_le (fun k => decide (s ≤ k) && decide (k ≤ L)) all
          omega
        have hbw2 : w.heap.size + 2 ≤ wr.heap.size := by have h := HBW.out.size; omega
        generalize (all.filter fun k => decide (s ≤ k) && decide (k ≤ L)) = Z at *
        have HBF := Lib.hid (HB1.out.trans (HBW.out.mono (by omega)))
        rcases HO.out.2 with ⟨hv, hz⟩ | ⟨g, cap2, cur, hv, _⟩
        · have hZ : Z = [] := List.eq_nil_of_length_eq_zero hz
          subst hZ
          have HAN3 := Lib.hid (show Vs.ancR s c _ = [] by rw [← HAN2.out]; exact Vs.compact_nil)
          cases hv
          go_wp2_with fail
          refine (sortNone_any none 0 wr).mono ?_
          rintro e wx ⟨rfl, rfl⟩
          go_wp2_with fail
          refine (Tryz.slices_Compact_int_empty none 0 wx).mono ?_
          rintro e wy ⟨rfl, rfl⟩
          go_wp2_with fail
          go_ret
          rw [HAN3.out]
          exact ⟨_, rfl, HNIL.out _ _, HBF.out⟩
        · cases hv
          have HOZ := HO.out
          go_wp2_with fail
          refine (sortOwn_any (w.heap.size + 2) g cp Z wr HO.out (by omega) hbw2).mono ?_
          rintro e wx ⟨rfl, ho4, hb4⟩
          have hlm : (Z.mergeSort fun x y => decide (x ≤ y)).length = Z.length := List.length_mergeSort Z
          have HO4 := Lib.hid (show wx.ownsRow (w.heap.size + 2) 3 1 (.slice (some ⟨g, 0, none⟩) (Z.mergeSort fun x y => decide (x ≤ y)).length cp) (Z.mergeSort fun x y => decide (x ≤ y)).length (Kit.izs (Z.mergeSort fun x y => decide (x ≤ y))) by rw [hlm]; exact ho4)
          have CC := Lib.hid (compactOwn_any (w.heap.size + 2) g cp _ wx HO4.out (by omega) (Nat.le_trans hbw2 hb4.size))
          rw [hlm, HAN2.out] at CC
          have HB4 := Lib.hid (HBF.out.trans (hb4.mono (by omega)))
          clear ho4 hb4 HOZ
          go_wp2_with fail
          refine CC.out.mono ?_
          rintro e wy ⟨rfl, ho5, hb5⟩
          have HO5 := Lib.hid ho5
          have HB5 := Lib.hid (HB4.out.trans (hb5.mono (by omega)))
          clear ho5 hb5
          go_wp2_with fail
          go_ret
          exact ⟨_, rfl, Kit.own_base HO5.out (by omega), HB5.out⟩
  case true =>
    go_enter Tryz.func20, Tryz.ntmps20
    go_wp2_with fail
    have HAN2 := Lib.hid (show Lib.compact (([s + 256].filter fun k => decide (s ≤ k) && decide (k ≤ L)).mergeSort fun x y => decide (x ≤ y)) = Vs.ancR s c _ from HAN.out)
    have HAC := Lib.hid (fun j (hj : j < 1) => show (#[.int .i64 (s + 256), .int .i64 (L - 256), .int .i64 L] : Array Value)[j]? = some (.int .i64 ([s + 256].getD j 0)) by
      have : j = 0 := by omega
      rcases this with rfl <;> rfl)
    have hal : ([s + 256] : List Int).length = 1 := rfl
    generalize (w.alloc (.cells #[.int .i64 s, .int .i64 c] 23)).alloc (.cells #[.int .i64 (s + 256), .int .i64 (L - 256), .int .i64 L] 3) = W2 at *
    generalize ([s + 256] : List Int) = all at *
    clear HL hL h1 h2 h3 h4 hL0 hL1 HAN
    have HSZ2 := Lib.hid hsz2
    go_loopw [7, 9, 49] (fun ov _ iv wr => ∃ j : Nat, j ≤ 1 ∧ iv = .int .i64 j ∧ wr.ownsRow (w.heap.size + 2) 3 1 ov ((all.take j).filter fun k => decide (s ≤ k) && decide (k ≤ L)).length (Kit.izs ((all.take j).filter fun k => decide (s ≤ k) && decide (k ≤ L))) ∧ Below W2.heap.size W2 wr) (fun _ _ iv _ => 1 - (intOf iv).toNat)
    case atStart => exact ⟨0, by omega, rfl, HNIL.out _ _, Below.refl _ _⟩
    case round =>
      obtain ⟨j, hj, rfl, ho, hbw⟩ := hrel
      obtain ⟨A, cp, rfl⟩ := own_shape ho
      have HO := Lib.hid ho
      have HBW := Lib.hid hbw
      clear ho hbw
      by_cases hlt : j < 1
      · have HF := Lib.hid (Vs.filt_step (fun k => decide (s ≤ k) && decide (k ≤ L)) all (j := j) (by omega))
        have hfl : ((all.take j).filter fun k => decide (s ≤ k) && decide (k ≤ L)).length ≤ 3 := by
          have a1 := List.length_filter_le (fun k => decide (s ≤ k) && decide (k ≤ L)) (all.take j)
          have a2 : (all.take j).length ≤ all.length := by rw [List.length_take]; omega
          omega
        have ck : wr.cell? ⟨w.heap.size + 1, j, none⟩ = some (.int .i64 (all.getD j 0)) := (cell_of_row _ _ _ _ _ _ ((HBW.out.block _ (by omega)).trans HN2.out)).trans (HAC.out j hlt)
        have cs := cell_of_row _ _ 0 _ _ _ ((HBW.out.block w.heap.size (by omega)).trans HN1.out)
        simp only [List.getElem?_toArray, List.getElem?_cons_zero] at cs
        generalize all.getD j 0 = k at *
        by_cases hk : s ≤ k ∧ k ≤ L
        · obtain ⟨k1, k2⟩ := hk
          have HF2 := Lib.hid (show ((all.take (j + 1)).filter fun k => decide (s ≤ k) && decide (k ≤ L)) = ((all.take j).filter fun k => decide (s ≤ k) && decide (k ≤ L)) ++ [k] by rw [HF.out, if_pos (by simp [k1, k2])])
          clear HF
          generalize ((all.take j).filter fun k => decide (s ≤ k) && decide (k ≤ L)) = F at *
          have hsz : w.heap.size + 2 ≤ wr.heap.size := by have h := HBW.out.size; omega
          go_wp2_with (at_builtin; refine Kit.app intInfo rfl (by decide) rfl _ _ 34 rfl Tryz.underlying34 (w.heap.size + 2) _ _ _ rfl HO.out [_] 1 1 rfl rfl (Kit.one1 rfl) ?c1 hsz ?_)
          case c1 => omega
          intro v' w' ho' hb'
          obtain ⟨g2, cap2, rfl⟩ : ∃ g2 cap2, v' = .slice (some ⟨g2, 0, none⟩) (F.length + 1) cap2 := by
            rcases ho'.2 with ⟨_, h0⟩ | ⟨g2, cap2, _, h0, _⟩
            · omega
            · exact ⟨g2, cap2, h0⟩
          have HO3 := Lib.hid ho'
          have HB3 := Lib.hid (HBW.out.trans (hb'.mono (by omega)))
          clear ho' hb' ck cs
          go_wp2_with fail
          go_roundw
          case rel => exact ⟨j + 1, by omega, by go_num, by rw [HF2.out, Kit.izs_append, List.length_append]; exact HO3.out, HB3.out⟩
          case measure => simp [intOf]; omega
        · have HF2 := Lib.hid (show ((all.take (j + 1)).filter fun k => decide (s ≤ k) && decide (k ≤ L)) = ((all.take j).filter fun k => decide (s ≤ k) && decide (k ≤ L)) by rw [HF.out, if_neg (by simpa using hk), List.append_nil])
          clear HF
          have hk2 : k < s ∨ (s ≤ k ∧ L < k) := by omega
          rcases hk2 with hk2 | ⟨hk2, hk3⟩
          all_goals
            go_wp2_with fail
            go_roundw
          all_goals first
            | exact ⟨j + 1, by omega, by go_num, by rw [HF2.out]; exact HO.out, HBW.out⟩
            | (simp [intOf]; omega)
      · obtain rfl : j = 1 := by omega
        rw [List.take_of_length_le (by omega)] at HO ⊢
        have hfl : (all.filter fun k => decide (s ≤ k) && decide (k ≤ L)).length ≤ 3 := by
          have a1 := List.length_filter_le (fun k => decide (s ≤ k) && decide (k ≤ L)) all
          omega
        have hbw2 : w.heap.size + 2 ≤ wr.heap.size := by have h := HBW.out.size; omega
        generalize (all.filter fun k => decide (s ≤ k) && decide (k ≤ L)) = Z at *
        have HBF := Lib.hid (HB1.out.trans (HBW.out.mono (by omega)))
        rcases HO.out.2 with ⟨hv, hz⟩ | ⟨g, cap2, cur, hv, _⟩
        · have hZ : Z = [] := List.eq_nil_of_length_eq_zero hz
          subst hZ
          have HAN3 := Lib.hid (show Vs.ancR s c _ = [] by rw [← HAN2.out]; exact Vs.compact_nil)
          cases hv
          go_wp2_with fail
          refine (sortNone_any none 0 wr).mono ?_
          rintro e wx ⟨rfl, rfl⟩
          go_wp2_with fail
          refine (Tryz.slices_Compact_int_empty none 0 wx).mono ?_
          rintro e wy ⟨rfl, rfl⟩
          go_wp2_with fail
          go_ret
          rw [HAN3.out]
          exact ⟨_, rfl, HNIL.out _ _, HBF.out⟩
        · cases hv
          have HOZ := HO.out
          go_wp2_with fail
          refine (sortOwn_any (w.heap.size + 2) g cp Z wr HO.out (by omega) hbw2).mono ?_
          rintro e wx ⟨rfl, ho4, hb4⟩
          have hlm : (Z.mergeSort fun x y => decide (x ≤ y)).length = Z.length := List.length_mergeSort Z
          have HO4 := Lib.hid (show wx.ownsRow (w.heap.size + 2) 3 1 (.slice (some ⟨g, 0, none⟩) (Z.mergeSort fun x y => decide (x ≤ y)).length cp) (Z.mergeSort fun x y => decide (x ≤ y)).length (Kit.izs (Z.mergeSort fun x y => decide (x ≤ y))) by rw [hlm]; exact ho4)
          have CC := Lib.hid (compactOwn_any (w.heap.size + 2) g cp _ wx HO4.out (by omega) (Nat.le_trans hbw2 hb4.size))
          rw [hlm, HAN2.out] at CC
          have HB4 := Lib.hid (HBF.out.trans (hb4.mono (by omega)))
          clear ho4 hb4 HOZ
          go_wp2_with fail
          refine CC.out.mono ?_
          rintro e wy ⟨rfl, ho5, hb5⟩
          have HO5 := Lib.hid ho5
          have HB5 := Lib.hid (HB4.out.trans (hb5.mono (by omega)))
          clear ho5 hb5
          go_wp2_with fail
          go_ret
          exact ⟨_, rfl, Kit.own_base HO5.out (by omega), HB5.out⟩
end Go.Proofs.YthkppbimkjmbnaaGreatDoor
